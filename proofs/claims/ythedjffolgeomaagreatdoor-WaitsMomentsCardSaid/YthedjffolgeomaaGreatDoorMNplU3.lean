/- The arguments' data in memory: from the model's reading of them to rows; reading them again. -/
import Derived.Test.YthedjffolgeomaaGreatDoorMNplT14
import Derived.Test.YthedjffolgeomaaGreatDoorMNplW7
import Derived.Deep.Slices
import Derived.ChangeSame
import Derived.RowKit
import Derived.RowKit3
import Derived.Lib.LaidTab
namespace Go.SL
open Go Go.ChangeShapes Go.WideShapes
def rowsOf (w : World) : Hp := fun b => match w.heap[b]? with
 | some (.cells c _ _)=>some (.row c.toList c.size false)
 | _=>none
theorem zEJ {w:World} {b:Nat} {c:Array Value} {T:TypeId} {fz:Nat × Nat} (h:w.heap[b]? = some (.cells c T fz)):rowsOf w b=some (.row c.toList c.size false):=by simp [rowsOf,h]
theorem yHc (w : World) : Sat w.heap (rowsOf w) := by
 intro b o h
 unfold rowsOf at h
 split at h
 ·rename_i c T fz hh
  cases h
  exact⟨c,T,fz,hh,rfl,List.prefix_refl _,fun h=>by cases h⟩
 ·cases h
theorem yLZ (b o k : Nat) : (⟨b, o, none⟩ : Addr).add k = ⟨b, o + k, none⟩ := by
 unfold Addr.add
 split
 ·rename_i h; subst h; rfl
 ·rfl
theorem zG.cells {w : World} {a : Addr} {n cap sz : Nat} {row : Nat → List Value} (hsz : 0 < sz) (h : ∀ i, i < n → w.cells? 0 (a.add (i * sz)) sz = some (row i)) : zG (rowsOf w) sz (.slice (some a) n cap) n row := by
 refine⟨_,_,rfl,(fun h=>by cases h),fun hn=>?_⟩
 have h0:=World.cells?_some (h 0 hn)
 have hc0:=h0.2.2 0 hsz
 have ea:(a.add (0 * sz)).add 0=a:=by simp [Addr.add]
 rw [ea] at hc0
 have hl0:0 < (row 0).length:=by rw [h0.2.1]; exact hsz
 rw [List.getElem?_eq_getElem hl0] at hc0
 obtain⟨b,o,sp⟩:=a
 unfold World.cell? at hc0
 split at hc0
 ·rename_i c T fz hh
  simp only at hh
  split at hc0
  ·cases hc0
  ·rename_i hsp
   have hsp':sp=none:=by cases sp<;>simp_all
   subst hsp'
   refine⟨b,o,c.toList,c.size,false,rfl,zEJ hh,fun i hi=>?_⟩
   have hi':=World.cells?_some (h i hi)
   have hget : ∀ j, j < sz → c[o + i * sz + j]? = (row i)[j]? := by
    intro j hj
    have:=hi'.2.2 j hj
    rw [yLZ,yLZ] at this
    unfold World.cell? at this
    simpa [hh] using this
   refine⟨?_,?_⟩
   ·have:=hget (sz - 1) (by omega)
    rw [List.getElem?_eq_getElem (by rw [hi'.2.1]; omega)] at this
    have:=(Array.getElem?_eq_some_iff.1 this).1
    simp; omega
   ·apply List.ext_getElem?
    intro j
    by_cases hj:j < sz
    ·rw [List.getElem?_take_of_lt hj,List.getElem?_drop,Array.getElem?_toList]
     exact hget j hj
    ·rw [List.getElem?_eq_none (by rw [List.length_take]; omega),List.getElem?_eq_none (by rw [hi'.2.1]; omega)]
 ·cases hc0
section
variable {D:Type} {enc:TypeId × Value→D} {P:Program} {w:World}
theorem zAN {t e : TypeId} {sz fuel : Nat} {cs : List Value} {x : DataW D × List MemPlace} (ht : P.underlying t = some (.slice e)) (hc : P.cellsOf e = sz) (hsz : 0 < sz)
  (h:DataW.trod enc P w 0 (fun _=>true) true fuel t cs=some x) :
  ∃ v n row m,cs = [v]∧zG (rowsOf w) sz v n row∧∀ i,i < n→∃ y,DataW.trod enc P w 0 (fun _=>true) true m e (row i)=some y:=by
 rcases Deep.open_slice ht h with⟨rfl,_⟩ | ⟨a,len,cap,m,n,Dd,Pl,rfl,_,hl,_,hm,_,hx⟩
 ·exact⟨_,0,fun _=>[],0,rfl,zG.nil,fun i hi=>by omega⟩
 ·have hm':m=cap:=by simpa using hm
  subst hm'
  have hch := Deep.choose_lt (α := List Value) (n := len) (p := fun i cs' => w.cells? 0 (a.add (i * P.cellsOf e)) (P.cellsOf e) = some cs' ∧ ∃ y, DataW.trod enc P w 0 (fun _ => true) true n e cs' = some y)
   (fun i hi => by
    obtain⟨cs',h1,h2⟩:=hx i (by omega)
    exact⟨cs',h1,_,h2⟩)
  obtain⟨row,hrow⟩:=hch
  subst hc
  exact⟨_,len,row,n,rfl,zG.cells hsz (fun i hi=>(hrow i hi).1),fun i hi=>(hrow i hi).2⟩
def zBa (P:Program) (t:TypeId) (l:List (Nat × TypeId)):Prop:=∃ fs,P.underlying t=some (.struct fs)∧fs.toList.map (fun f=>(f.offset,f.type))=l
theorem vZ {t : TypeId} {l : List (Nat × TypeId)} {fuel : Nat} {cs : List Value} {x : DataW D × List MemPlace} (ht : zBa P t l)
  (h:DataW.trod enc P w 0 (fun _=>true) true fuel t cs=some x) :
  cs.length=P.cellsOf t∧∃ n,∀ p∈l,∃ y,DataW.trod enc P w 0 (fun _=>true) true n p.2 ((cs.drop p.1).take (P.cellsOf p.2))=some y:=by
 obtain⟨fs,hu,rfl⟩:=ht
 obtain⟨xs,n,_,_,hl,hlen,hf⟩:=DataW.trod_struct hu h
 refine⟨hl,n,fun p hp=>?_⟩
 obtain⟨f,hfm,rfl⟩:=List.mem_map.1 hp
 obtain⟨i,hi⟩:=List.getElem?_of_mem hfm
 have hi':fs[i]? = some f:=by simpa using hi
 have:=hf i f hi'
 have hlt:i < xs.length:=by rw [hlen]; exact(Array.getElem?_eq_some_iff.1 hi').1
 rw [List.getElem?_eq_getElem hlt] at this
 exact⟨_,this⟩
structure Tys (P : Program) where
 string:TypeId
 int:TypeId
 u64:TypeId
 datum:TypeId
 datums:TypeId
 sig:TypeId
 sigs:TypeId
 set:TypeId
 signed:TypeId
 signeds:TypeId
 zone:TypeId
 copy:TypeId
 copies:TypeId
 host:TypeId
 hosts:TypeId
 ints:TypeId
 hist:TypeId
 hstring:P.underlying string=some .string
 hint:P.underlying int=some (.int .i64)
 hu64:P.underlying u64=some (.int .u64)
 hdatums:P.underlying datums=some (.slice datum)
 hsigs:P.underlying sigs=some (.slice sig)
 hsigneds:P.underlying signeds=some (.slice signed)
 hcopies:P.underlying copies=some (.slice copy)
 hhosts:P.underlying hosts=some (.slice host)
 hints:P.underlying ints=some (.slice int)
 hdatum:zBa P datum [(0,string),(1,int),(2,int)]
 hsig:zBa P sig [(0,string),(1,int),(2,int),(3,int),(4,int),(5,u64)]
 hset:zBa P set [(0,string),(1,int),(2,int),(3,datums)]
 hsigned:zBa P signed [(0,set),(4,sigs)]
 hzone:zBa P zone [(0,string),(1,signeds)]
 hcopy:zBa P copy [(0,int),(1,int),(2,int),(3,zone)]
 hhost:zBa P host [(0,string),(1,int),(2,int)]
 hhist:zBa P hist [(0,hosts),(1,copies),(2,set),(6,ints),(7,int),(8,int)]
 cstring:P.cellsOf string=1
 cint:P.cellsOf int=1
 cu64:P.cellsOf u64=1
 cdatums:P.cellsOf datums=1
 csigs:P.cellsOf sigs=1
 csigneds:P.cellsOf signeds=1
 ccopies:P.cellsOf copies=1
 chosts:P.cellsOf hosts=1
 cints:P.cellsOf ints=1
 cdatum:P.cellsOf datum=3
 csig:P.cellsOf sig=6
 cset:P.cellsOf set=4
 csigned:P.cellsOf signed=5
 czone:P.cellsOf zone=2
 ccopy:P.cellsOf copy=5
 chost:P.cellsOf host=3
 chist:P.cellsOf hist=9
theorem zGG {t : TypeId} {fuel : Nat} {cs : List Value} {x : DataW D × List MemPlace} (ht : P.underlying t = some .string) (h : DataW.trod enc P w 0 (fun _ => true) true fuel t cs = some x) : ∃ l, cs = [S l] := by
 obtain⟨s,rfl,_⟩:=DataW.trod_string ht h
 exact⟨s.data.toList,by rw [S,← yYv]⟩
theorem qW {t : TypeId} {k : IntKind} {fuel : Nat} {cs : List Value} {x : DataW D × List MemPlace} (ht : P.underlying t = some (.int k)) (h : DataW.trod enc P w 0 (fun _ => true) true fuel t cs = some x) : ∃ n, cs = [.int k n] := by
 obtain⟨n,rfl,_⟩:=DataW.trod_int ht h
 exact⟨n,rfl⟩
theorem yVn {t : TypeId} {fuel : Nat} {cs : List Value} {x : DataW D × List MemPlace} (ht : P.underlying t = some (.int .u64)) (h : DataW.trod enc P w 0 (fun _ => true) true fuel t cs = some x) : ∃ n, cs = [.int .u64 n] ∧ 0 ≤ n ∧ n ≤ 18446744073709551615 := by
 obtain⟨n,rfl,_,hw⟩:=DataW.trod_int ht h
 have hw':(decide (IntKind.u64.min≤n) && decide (n≤IntKind.u64.max))=true:=hw
 rw [Bool.and_eq_true,decide_eq_true_eq,decide_eq_true_eq] at hw'
 exact⟨n,rfl,hw'.1,hw'.2⟩
theorem zFs {α : Type} [Inhabited α] (n : Nat) (f : Nat → α) : ∃ l : List α, l.length = n ∧ ∀ i, i < n → l.getD i default = f i := by
 refine⟨(List.range n).map f,by simp,fun i hi=>?_⟩
 simp [hi]
variable (T:Tys P)
theorem yUU {fuel : Nat} {cs : List Value} {x : DataW D × List MemPlace} (h : DataW.trod enc P w 0 (fun _ => true) true fuel T.datums cs = some x) : ∃ v ds, cs = [v] ∧ xC (rowsOf w) v ds := by
 obtain⟨v,n,row,m,rfl,hs,hr⟩:=zAN T.hdatums T.cdatum (by omega) h
 have hch := Deep.choose_lt (α := xN) (n := n) (p := fun i d => row i = [S d.text, .int .i64 d.n, .int .i64 d.m]) (fun i hi => by
  obtain⟨y,hy⟩:=hr i hi
  obtain⟨hl,k,hf⟩:=vZ T.hdatum hy
  rw [T.cdatum] at hl
  obtain ⟨c0, c1, c2, hc⟩ : ∃ c0 c1 c2, row i = [c0, c1, c2] := by
   match row i,hl with
   | [c0,c1,c2],_=>exact⟨c0,c1,c2,rfl⟩
  rw [hc] at hf ⊢
  obtain⟨_,h0⟩:=hf (0,T.string) (by simp)
  obtain⟨_,h1⟩:=hf (1,T.int) (by simp)
  obtain⟨_,h2⟩:=hf (2,T.int) (by simp)
  simp only [T.cstring,T.cint,List.drop_zero,List.drop_succ_cons,List.take_succ_cons,List.take_zero] at h0 h1 h2
  obtain⟨s,hs⟩:=zGG T.hstring h0
  obtain⟨a,ha⟩:=qW T.hint h1
  obtain⟨b,hb⟩:=qW T.hint h2
  cases hs; cases ha; cases hb
  exact⟨⟨s,a,b⟩,rfl⟩)
 obtain⟨f,hf⟩:=hch
 obtain⟨l,hl,hg⟩:=zFs n f
 subst hl
 exact⟨v,l,rfl,hs.row_congr fun i hi=>by rw [hf i hi,jD,hg i hi]⟩
theorem yUy {fuel : Nat} {cs : List Value} {x : DataW D × List MemPlace} (h : DataW.trod enc P w 0 (fun _ => true) true fuel T.sigs cs = some x) : ∃ v gs, cs = [v] ∧ xT (rowsOf w) v gs ∧ ∀ g ∈ gs, 0 ≤ g.sum ∧ g.sum ≤ 18446744073709551615 := by
 obtain⟨v,n,row,m,rfl,hs,hr⟩:=zAN T.hsigs T.csig (by omega) h
 have hch := Deep.choose_lt (α := kT) (n := n) (p := fun i d => row i = [S d.zone, .int .i64 d.key, .int .i64 d.alg, .int .i64 d.from_, .int .i64 d.till, .int .u64 d.sum] ∧ 0 ≤ d.sum ∧ d.sum ≤ 18446744073709551615) (fun i hi => by
  obtain⟨y,hy⟩:=hr i hi
  obtain⟨hl,k,hf⟩:=vZ T.hsig hy
  rw [T.csig] at hl
  obtain ⟨c0, c1, c2, c3, c4, c5, hc⟩ : ∃ c0 c1 c2 c3 c4 c5, row i = [c0, c1, c2, c3, c4, c5] := by
   match row i,hl with
   | [c0,c1,c2,c3,c4,c5],_=>exact⟨c0,c1,c2,c3,c4,c5,rfl⟩
  rw [hc] at hf ⊢
  obtain⟨_,h0⟩:=hf (0,T.string) (by simp)
  obtain⟨_,h1⟩:=hf (1,T.int) (by simp)
  obtain⟨_,h2⟩:=hf (2,T.int) (by simp)
  obtain⟨_,h3⟩:=hf (3,T.int) (by simp)
  obtain⟨_,h4⟩:=hf (4,T.int) (by simp)
  obtain⟨_,h5⟩:=hf (5,T.u64) (by simp)
  simp only [T.cstring,T.cint,T.cu64,List.drop_zero,List.drop_succ_cons,List.take_succ_cons,List.take_zero] at h0 h1 h2 h3 h4 h5
  obtain⟨s,hs⟩:=zGG T.hstring h0
  obtain⟨a1,ha1⟩:=qW T.hint h1
  obtain⟨a2,ha2⟩:=qW T.hint h2
  obtain⟨a3,ha3⟩:=qW T.hint h3
  obtain⟨a4,ha4⟩:=qW T.hint h4
  obtain⟨a5,ha5,hr5⟩:=yVn T.hu64 h5
  cases hs; cases ha1; cases ha2; cases ha3; cases ha4; cases ha5
  exact⟨⟨s,a1,a2,a3,a4,a5⟩,rfl,hr5⟩)
 obtain⟨f,hf⟩:=hch
 obtain⟨l,hl,hg⟩:=zFs n f
 subst hl
 refine⟨v,l,rfl,hs.row_congr fun i hi=>by rw [(hf i hi).1,zBi,hg i hi],fun g hgm=>?_⟩
 obtain⟨i,hi,rfl⟩:=List.getElem_of_mem hgm
 have e:l[i]=f i:=by rw [← hg i hi,List.getD_eq_getElem?_getD,List.getElem?_eq_getElem hi]; rfl
 rw [e]
 exact(hf i hi).2
theorem ySd {fuel : Nat} {cs : List Value} {x : DataW D × List MemPlace} (h : DataW.trod enc P w 0 (fun _ => true) true fuel T.hosts cs = some x) : ∃ v hs, cs = [v] ∧ xV (rowsOf w) v hs := by
 obtain⟨v,n,row,m,rfl,hs,hr⟩:=zAN T.hhosts T.chost (by omega) h
 have hch := Deep.choose_lt (α := uP) (n := n) (p := fun i d => row i = [S d.name, .int .i64 d.addr, .int .i64 d.owner]) (fun i hi => by
  obtain⟨y,hy⟩:=hr i hi
  obtain⟨hl,k,hf⟩:=vZ T.hhost hy
  rw [T.chost] at hl
  obtain ⟨c0, c1, c2, hc⟩ : ∃ c0 c1 c2, row i = [c0, c1, c2] := by
   match row i,hl with
   | [c0,c1,c2],_=>exact⟨c0,c1,c2,rfl⟩
  rw [hc] at hf ⊢
  obtain⟨_,h0⟩:=hf (0,T.string) (by simp)
  obtain⟨_,h1⟩:=hf (1,T.int) (by simp)
  obtain⟨_,h2⟩:=hf (2,T.int) (by simp)
  simp only [T.cstring,T.cint,List.drop_zero,List.drop_succ_cons,List.take_succ_cons,List.take_zero] at h0 h1 h2
  obtain⟨s,hs⟩:=zGG T.hstring h0
  obtain⟨a,ha⟩:=qW T.hint h1
  obtain⟨b,hb⟩:=qW T.hint h2
  cases hs; cases ha; cases hb
  exact⟨⟨s,a,b⟩,rfl⟩)
 obtain⟨f,hf⟩:=hch
 obtain⟨l,hl,hg⟩:=zFs n f
 subst hl
 exact⟨v,l,rfl,hs.row_congr fun i hi=>by rw [hf i hi,zBD,hg i hi]⟩
theorem yTF {fuel : Nat} {cs : List Value} {x : DataW D × List MemPlace} (h : DataW.trod enc P w 0 (fun _ => true) true fuel T.ints cs = some x) : ∃ v ns, cs = [v] ∧ xE (rowsOf w) v ns := by
 obtain⟨v,n,row,m,rfl,hs,hr⟩:=zAN T.hints T.cint (by omega) h
 have hch := Deep.choose_lt (α := Int) (n := n) (p := fun i d => row i = [.int .i64 d]) (fun i hi => by
  obtain⟨y,hy⟩:=hr i hi
  exact qW T.hint hy)
 obtain⟨f,hf⟩:=hch
 refine⟨v,(List.range n).map f,rfl,?_⟩
 have hl:((List.range n).map f).length=n:=by simp
 unfold xE
 rw [hl]
 exact hs.row_congr fun i hi=>by rw [hf i hi]; simp [wH,hi]
theorem yKI {fuel : Nat} {cs : List Value} {x : DataW D × List MemPlace} (h : DataW.trod enc P w 0 (fun _ => true) true fuel T.set cs = some x) : ∃ nm ty lf v ds, cs = [S nm, .int .i64 ty, .int .i64 lf, v] ∧ xC (rowsOf w) v ds := by
 obtain⟨hl,k,hf⟩:=vZ T.hset h
 rw [T.cset] at hl
 obtain ⟨c0, c1, c2, c3, hc⟩ : ∃ c0 c1 c2 c3, cs = [c0, c1, c2, c3] := by
  match cs,hl with
  | [c0,c1,c2,c3],_=>exact⟨c0,c1,c2,c3,rfl⟩
 subst hc
 obtain⟨_,h0⟩:=hf (0,T.string) (by simp)
 obtain⟨_,h1⟩:=hf (1,T.int) (by simp)
 obtain⟨_,h2⟩:=hf (2,T.int) (by simp)
 obtain⟨_,h3⟩:=hf (3,T.datums) (by simp)
 simp only [T.cstring,T.cint,T.cdatums,List.drop_zero,List.drop_succ_cons,List.take_succ_cons,List.take_zero] at h0 h1 h2 h3
 obtain⟨s,hs⟩:=zGG T.hstring h0
 obtain⟨a,ha⟩:=qW T.hint h1
 obtain⟨b,hb⟩:=qW T.hint h2
 obtain⟨v,ds,hv,hd⟩:=yUU T h3
 cases hs; cases ha; cases hb; cases hv
 exact⟨s,a,b,c3,ds,rfl,hd⟩
theorem yTW {fuel : Nat} {cs : List Value} {x : DataW D × List MemPlace} (h : DataW.trod enc P w 0 (fun _ => true) true fuel T.signeds cs = some x) : ∃ v ss, cs = [v] ∧ xL (rowsOf w) v ss ∧ zBV ss := by
 obtain⟨v,n,row,m,rfl,hs,hr⟩:=zAN T.hsigneds T.csigned (by omega) h
 have hch := Deep.choose_lt (α := zF × Value × Value) (n := n) (p := fun i d => row i = [S d.1.name, .int .i64 d.1.type, .int .i64 d.1.life, d.2.1, d.2.2] ∧ xC (rowsOf w) d.2.1 d.1.data ∧ xT (rowsOf w) d.2.2 d.1.sigs ∧ ∀ g ∈ d.1.sigs, 0 ≤ g.sum ∧ g.sum ≤ 18446744073709551615) (fun i hi => by
  obtain⟨y,hy⟩:=hr i hi
  obtain⟨hl,k,hf⟩:=vZ T.hsigned hy
  rw [T.csigned] at hl
  obtain ⟨c0, c1, c2, c3, c4, hc⟩ : ∃ c0 c1 c2 c3 c4, row i = [c0, c1, c2, c3, c4] := by
   match row i,hl with
   | [c0,c1,c2,c3,c4],_=>exact⟨c0,c1,c2,c3,c4,rfl⟩
  rw [hc] at hf ⊢
  obtain⟨_,h0⟩:=hf (0,T.set) (by simp)
  obtain⟨_,h1⟩:=hf (4,T.sigs) (by simp)
  simp only [T.cset,T.csigs,List.drop_zero,List.drop_succ_cons,List.take_succ_cons,List.take_zero] at h0 h1
  obtain⟨nm,ty,lf,vd,ds,he,hd⟩:=yKI T h0
  obtain⟨vg,gs,hg,hgs,hrs⟩:=yUy T h1
  cases he; cases hg
  exact⟨(⟨nm,ty,lf,ds,gs⟩,c3,c4),rfl,hd,hgs,hrs⟩)
 obtain⟨f,hf⟩:=hch
 obtain⟨l,hl,hg⟩:=zFs n (fun i=>(f i).1)
 subst hl
 refine⟨v,l,rfl,⟨fun i=>(f i).2.1,fun i=>(f i).2.2,hs.row_congr fun i hi=>?_,fun i hi=>?_⟩,?_⟩
 ·rw [(hf i hi).1,xA,hg i hi]
 ·rw [hg i hi]; exact⟨(hf i hi).2.1,(hf i hi).2.2.1⟩
 ·intro s hsm
  obtain⟨i,hi,rfl⟩:=List.getElem_of_mem hsm
  have e:l[i]=(f i).1:=by rw [← hg i hi,List.getD_eq_getElem?_getD,List.getElem?_eq_getElem hi]; rfl
  rw [e]
  exact(hf i hi).2.2.2
theorem yOa {fuel : Nat} {cs : List Value} {x : DataW D × List MemPlace} (h : DataW.trod enc P w 0 (fun _ => true) true fuel T.copies cs = some x) : ∃ v ps, cs = [v] ∧ uZ (rowsOf w) v ps ∧ ∀ c ∈ ps, zBV c.sets := by
 obtain⟨v,n,row,m,rfl,hs,hr⟩:=zAN T.hcopies T.ccopy (by omega) h
 have hch := Deep.choose_lt (α := yE × Value) (n := n) (p := fun i d => row i = [.int .i64 d.1.host, .int .i64 d.1.from_, .int .i64 d.1.till, S d.1.apex, d.2] ∧ xL (rowsOf w) d.2 d.1.sets ∧ zBV d.1.sets) (fun i hi => by
  obtain⟨y,hy⟩:=hr i hi
  obtain⟨hl,k,hf⟩:=vZ T.hcopy hy
  rw [T.ccopy] at hl
  obtain ⟨c0, c1, c2, c3, c4, hc⟩ : ∃ c0 c1 c2 c3 c4, row i = [c0, c1, c2, c3, c4] := by
   match row i,hl with
   | [c0,c1,c2,c3,c4],_=>exact⟨c0,c1,c2,c3,c4,rfl⟩
  rw [hc] at hf ⊢
  obtain⟨_,h0⟩:=hf (0,T.int) (by simp)
  obtain⟨_,h1⟩:=hf (1,T.int) (by simp)
  obtain⟨_,h2⟩:=hf (2,T.int) (by simp)
  obtain⟨_,h3⟩:=hf (3,T.zone) (by simp)
  simp only [T.cint,T.czone,List.drop_zero,List.drop_succ_cons,List.take_succ_cons,List.take_zero] at h0 h1 h2 h3
  obtain⟨a,ha⟩:=qW T.hint h0
  obtain⟨b,hb⟩:=qW T.hint h1
  obtain⟨c,hcc⟩:=qW T.hint h2
  obtain⟨_,k2,hf2⟩:=vZ T.hzone h3
  obtain⟨_,g0⟩:=hf2 (0,T.string) (by simp)
  obtain⟨_,g1⟩:=hf2 (1,T.signeds) (by simp)
  simp only [T.cstring,T.csigneds,List.drop_zero,List.drop_succ_cons,List.take_succ_cons,List.take_zero] at g0 g1
  obtain⟨s,hs⟩:=zGG T.hstring g0
  obtain⟨vs,ss,hv,hss,hsum⟩:=yTW T g1
  cases ha; cases hb; cases hcc; cases hs; cases hv
  exact⟨(⟨a,b,c,s,ss⟩,c4),rfl,hss,hsum⟩)
 obtain⟨f,hf⟩:=hch
 obtain⟨l,hl,hg⟩:=zFs n (fun i=>(f i).1)
 subst hl
 refine⟨v,l,rfl,⟨fun i=>(f i).2,hs.row_congr fun i hi=>?_,fun i hi=>?_⟩,fun c hcm=>?_⟩
 ·rw [(hf i hi).1,zAf,hg i hi]
 ·rw [hg i hi]; exact(hf i hi).2.1
 ·obtain⟨i,hi,rfl⟩:=List.getElem_of_mem hcm
  have e:l[i]=(f i).1:=by rw [← hg i hi,List.getD_eq_getElem?_getD,List.getElem?_eq_getElem hi]; rfl
  rw [e]
  exact(hf i hi).2.2
theorem yUo {fuel : Nat} {cs : List Value} {x : DataW D × List MemPlace} (h : DataW.trod enc P w 0 (fun _ => true) true fuel T.hist cs = some x) : ∃ hd, vS (rowsOf w) (.agg cs.toArray) hd ∧ ∀ c ∈ hd.copies, zBV c.sets := by
 obtain⟨hl,k,hf⟩:=vZ T.hhist h
 rw [T.chist] at hl
 obtain ⟨c0, c1, c2, c3, c4, c5, c6, c7, c8, hc⟩ : ∃ c0 c1 c2 c3 c4 c5 c6 c7 c8, cs = [c0, c1, c2, c3, c4, c5, c6, c7, c8] := by
  match cs,hl with
  | [c0,c1,c2,c3,c4,c5,c6,c7,c8],_=>exact⟨c0,c1,c2,c3,c4,c5,c6,c7,c8,rfl⟩
 subst hc
 obtain⟨_,h0⟩:=hf (0,T.hosts) (by simp)
 obtain⟨_,h1⟩:=hf (1,T.copies) (by simp)
 obtain⟨_,h2⟩:=hf (2,T.set) (by simp)
 obtain⟨_,h3⟩:=hf (6,T.ints) (by simp)
 obtain⟨_,h4⟩:=hf (7,T.int) (by simp)
 obtain⟨_,h5⟩:=hf (8,T.int) (by simp)
 simp only [T.chosts,T.ccopies,T.cset,T.cints,T.cint,List.drop_zero,List.drop_succ_cons,List.take_succ_cons,List.take_zero] at h0 h1 h2 h3 h4 h5
 obtain⟨vh,hs,e0,g0⟩:=ySd T h0
 obtain⟨vz,zs,e1,g1,g1s⟩:=yOa T h1
 obtain⟨nm,ty,lf,vd,ds,e2,g2⟩:=yKI T h2
 obtain⟨vi,ns,e3,g3⟩:=yTF T h3
 obtain⟨dr,e4⟩:=qW T.hint h4
 obtain⟨en,e5⟩:=qW T.hint h5
 cases e0; cases e1; cases e2; cases e3; cases e4; cases e5
 exact⟨⟨hs,zs,nm,ty,lf,ds,ns,dr,en⟩,⟨c0,c1,c5,c6,rfl,g0,g1,g2,g3⟩,g1s⟩
end
inductive kM (P : Program) : TypeId → Prop where
 | bool {t:TypeId} (h:P.underlying t=some .bool):kM P t
 | int {t:TypeId} {k:IntKind} (h:P.underlying t=some (.int k)):kM P t
 | str {t:TypeId} (h:P.underlying t=some .string):kM P t
 | slice {t e:TypeId} (h:P.underlying t=some (.slice e)) (hc:0 < P.cellsOf e) (he:kM P e):kM P t
 | struct {t:TypeId} {l:List (Nat × TypeId)} (h:zBa P t l) (hf:∀ p∈l,kM P p.2):kM P t
theorem Tys.okHist {P : Program} (T : Tys P) : kM P T.hist := by
 have hs:=kM.str T.hstring
 have hi:=kM.int T.hint
 have hu:=kM.int T.hu64
 have hd:kM P T.datums:=.slice T.hdatums (by rw [T.cdatum]; omega) (.struct T.hdatum (by intro p hp; simp at hp; rcases hp with rfl | rfl | rfl<;>assumption))
 have hg:kM P T.sigs:=.slice T.hsigs (by rw [T.csig]; omega) (.struct T.hsig (by intro p hp; simp at hp; rcases hp with rfl | rfl | rfl | rfl | rfl | rfl<;>assumption))
 have hset:kM P T.set:=.struct T.hset (by intro p hp; simp at hp; rcases hp with rfl | rfl | rfl | rfl<;>assumption)
 have hss:kM P T.signeds:=.slice T.hsigneds (by rw [T.csigned]; omega) (.struct T.hsigned (by intro p hp; simp at hp; rcases hp with rfl | rfl<;>assumption))
 have hz:kM P T.zone:=.struct T.hzone (by intro p hp; simp at hp; rcases hp with rfl | rfl<;>assumption)
 have hp:kM P T.copies:=.slice T.hcopies (by rw [T.ccopy]; omega) (.struct T.hcopy (by intro p hp; simp at hp; rcases hp with rfl | rfl | rfl | rfl<;>assumption))
 have hh:kM P T.hosts:=.slice T.hhosts (by rw [T.chost]; omega) (.struct T.hhost (by intro p hp; simp at hp; rcases hp with rfl | rfl | rfl<;>assumption))
 have hn:kM P T.ints:=.slice T.hints (by rw [T.cint]; omega) hi
 exact .struct T.hhist (by intro p hp; simp at hp; rcases hp with rfl | rfl | rfl | rfl | rfl | rfl<;>assumption)
def Old (w w':World):Prop:=∀ b,b < w.heap.size→w'.heap[b]? = w.heap[b]?
theorem yPV {w w' : World} (ho : Old w w') {a : Addr} {n : Nat} {cs : List Value} (hn : 0 < n) (h : w.cells? 0 a n = some cs) : w'.cells? 0 a n = some cs := by
 have hb : a.block < w.heap.size := by
  have h1:=World.cells?_some h
  have h2:=h1.2.2 0 hn
  rw [List.getElem?_eq_getElem (by rw [h1.2.1]; exact hn)] at h2
  have e:a.add 0=a:=by simp [Addr.add]
  rw [e] at h2
  unfold World.cell? at h2
  split at h2
  ·rename_i hh; exact(Array.getElem?_eq_some_iff.1 hh).1
  ·cases h2
 have he : ∀ i, w'.cell? (a.add i) = w.cell? (a.add i) := by
  intro i
  have hbb:(a.add i).block=a.block:=by unfold Addr.add; split<;>rfl
  unfold World.cell?
  rw [hbb,ho _ hb]
 unfold World.cells? at h ⊢
 simp only [he]
 exact h
theorem yAX {α β : Type} {f : α → Option β} : ∀ {l : List α} {ys : List β}, l.length = ys.length → (∀ (i : Nat) (a : α), l[i]? = some a → f a = ys[i]?) → l.mapM f = some ys
 | [],[],_,_=>rfl
 | [],_ :: _,h,_=>by simp at h
 | _ :: _,[],h,_=>by simp at h
 | a :: l, y :: ys, h, hf => by
  have h0:=hf 0 a rfl
  have ih:=yAX (l:=l) (ys:=ys) (by simpa using h) (fun i b hb=>by simpa using hf (i + 1) b (by simpa using hb))
  simp at h0
  simp [List.mapM_cons,h0,ih]
theorem yKa {a : Addr} {n : Nat} (hn : 0 < n) : ∃ p ∈ MemPlace.row a n, p.block = a.block := by
 refine⟨_,List.mem_map.2 ⟨0,List.mem_range.2 hn,rfl⟩,?_⟩
 simp [MemPlace.block]
theorem again {D : Type} {enc : TypeId × Value → D} {P : Program} {w w' : World} (ho : Old w w') {sp : Nat → Bool} :
  ∀ (fuel : Nat) {t : TypeId} {cs : List Value} {x : DataW D × List MemPlace}, kM P t → DataW.trod enc P w 0 (fun _ => true) true fuel t cs = some x → (∀ p ∈ x.2, sp p.block = true) →
   ∃ n,DataW.trod enc P w' 0 sp true n t cs=some x:=by
 intro fuel
 induction fuel with
 | zero=>intro t cs x _ h; simp [DataW.trod] at h
 | succ fuel ih =>
  intro t cs x hk h hsp
  cases hk with
  | bool ht=>obtain⟨b,rfl,rfl⟩:=DataW.trod_bool ht h; exact⟨1,by simp [DataW.trod,ht]⟩
  | int ht=>obtain⟨n,rfl,rfl,hw⟩:=DataW.trod_int ht h; exact⟨1,by simp [DataW.trod,ht,hw]⟩
  | str ht=>obtain⟨s,rfl,rfl,hw⟩:=DataW.trod_string ht h; exact⟨1,by simp [DataW.trod,ht,hw]⟩
  | @slice t e ht hc he =>
   rcases DataW.trod_slice ht h with⟨rfl,rfl⟩ | ⟨a,len,cap,elems,rest,n,hfu,rfl,rfl,_,hl,hm,hlen,hel,hspr,_⟩
   ·exact⟨1,by simp [DataW.trod,ht]⟩
   have hn:n=fuel:=by omega
   subst hn
   have hrest:=hspr rfl
   have hx : ∀ i, i < cap → ∃ cs' y, w.cells? 0 (a.add (i * P.cellsOf e)) (P.cellsOf e) = some cs' ∧ DataW.trod enc P w 0 (fun _ => true) true n e cs' = some y ∧ (elems ++ rest)[i]? = some y := by
    intro i hi
    have key : (w.cells? 0 (a.add (i * P.cellsOf e)) (P.cellsOf e)).bind (DataW.trod enc P w 0 (fun _ => true) true n e) = (elems ++ rest)[i]? := by
     by_cases hil:i < len
     ·rw [hel i hil,List.getElem?_append_left (by omega)]
     ·have:=hrest.2 (i - len) (by omega)
      rw [show len + (i - len)=i by omega] at this
      rw [this,List.getElem?_append_right (by omega),hlen]
    have hlt:i < (elems ++ rest).length:=by rw [List.length_append,hlen,hrest.1]; omega
    rw [List.getElem?_eq_getElem hlt] at key
    obtain⟨cs',h1,h2⟩:=Option.bind_eq_some_iff.1 key
    exact⟨cs',_,h1,h2,List.getElem?_eq_getElem hlt⟩
   by_cases hc0:cap=0
   ·subst hc0
    have hl0:len=0:=by omega
    subst hl0
    have e1:elems = []:=List.length_eq_zero_iff.1 hlen
    have e2:rest = []:=List.length_eq_zero_iff.1 (by have:=hrest.1; omega)
    subst e1 e2
    refine⟨1,?_⟩
    simp [DataW.trod,ht]
   ·have hsa : sp a.block = true := by
     have hlen2:elems.length + rest.length=cap:=by rw [hlen,hrest.1]; omega
     obtain⟨p,hp,hpb⟩:=yKa (a:=a) (n:=(elems.length + rest.length) * P.cellsOf e) (Nat.mul_pos (by omega) hc)
     rw [← hpb]
     exact hsp p (List.mem_append_left _ hp)
    have := Deep.shut_slice_whole_cells (enc := enc) (w := w') (base := 0) (spare := sp) (held := true) ht (Nat.zero_le _) hl hm hsa (fun i => ((elems ++ rest).getD i (.nil, [])).1) (fun i => ((elems ++ rest).getD i (.nil, [])).2) (fun i hi => by
     obtain⟨cs',y,h1,h2,h3⟩:=hx i hi
     obtain⟨m,hm'⟩:=ih he h2 (fun p hp=>hsp p (List.mem_append_right _ (List.mem_flatMap.2 ⟨y,List.mem_of_getElem? h3,hp⟩)))
     refine⟨cs',m,yPV ho hc h1,?_⟩
     rw [hm',List.getD_eq_getElem?_getD,h3]
     rfl)
    obtain⟨m,hm'⟩:=this
    refine⟨m,hm'.trans ?_⟩
    have hall:(elems ++ rest).length=cap:=by rw [List.length_append,hlen,hrest.1]; omega
    congr 1
    refine Prod.ext ?_ ?_
    ·show DataW.slice _ _=DataW.slice _ _
     congr 1
     ·rw [Deep.map_by_index elems (.nil,[]) (·.1),hlen]
      refine List.map_congr_left fun i hi=>?_
      have hi':i < elems.length:=by rw [hlen]; simpa using hi
      simp [List.getD,List.getElem?_append_left hi']
     ·rw [Deep.map_by_index rest (.nil,[]) (·.1),hrest.1]
      refine List.map_congr_left fun j _=>?_
      simp [List.getD,List.getElem?_append_right (show elems.length≤len + j by omega),hlen]
    ·show MemPlace.row a (cap * P.cellsOf e) ++ _=MemPlace.row a ((elems.length + rest.length) * P.cellsOf e) ++ (elems ++ rest).flatMap (·.2)
     rw [Deep.flatMap_by_index (elems ++ rest) (.nil,[]) (·.2),hall,← List.length_append,hall]
  | @struct t l ht hf =>
   obtain⟨fs,hu,rfl⟩:=ht
   obtain⟨xs,n,hfu,rfl,hl,hlen,hx⟩:=DataW.trod_struct hu h
   have hn:n=fuel:=by omega
   subst hn
   have hone : ∀ i, i < fs.size → ∃ m, ∀ f, fs[i]? = some f → DataW.trod enc P w' 0 sp true m f.type ((cs.drop f.offset).take (P.cellsOf f.type)) = xs[i]? := by
    intro i hi
    have hfi:fs[i]? = some fs[i]:=by simp [hi]
    have h1:=hx i _ hfi
    have hlt:i < xs.length:=by omega
    rw [List.getElem?_eq_getElem hlt] at h1
    obtain⟨m,hm⟩:=ih (hf (fs[i].offset,fs[i].type) (List.mem_map.2 ⟨fs[i],by simp,rfl⟩)) h1 (fun p hp=>hsp p (List.mem_flatMap.2 ⟨_,List.getElem_mem hlt,hp⟩))
    refine⟨m,fun f hf'=>?_⟩
    rw [hfi] at hf'
    cases hf'
    rw [hm,List.getElem?_eq_getElem hlt]
   obtain ⟨m, hm⟩ := Deep.fuel_lt (n := fs.size) (q := fun i m => ∀ f, fs[i]? = some f → DataW.trod enc P w' 0 sp true m f.type ((cs.drop f.offset).take (P.cellsOf f.type)) = xs[i]?) (fun i a b hab hq f hf' => by
    have h1:=hq f hf'
    have hlt:i < xs.length:=by have:=(Array.getElem?_eq_some_iff.1 hf').1; omega
    rw [List.getElem?_eq_getElem hlt] at h1 ⊢
    exact DataW.trod_le hab h1) hone
   refine⟨m + 1,trod_struct_mk hu hl (yAX (by simpa using hlen.symm) fun i f hf'=>?_)⟩
   have hf'':fs[i]? = some f:=by simpa using hf'
   exact hm i (Array.getElem?_eq_some_iff.1 hf'').1 f hf''
theorem zGh {D : Type} {enc : TypeId × Value → D} {P : Program} {w w' : World} (ho : Old w w') {sp : Nat → Bool} :
  ∀ {ts:List TypeId} {vs:List Value} {ds:List (DataW D)} {ps:List MemPlace},(∀ t∈ts,kM P t)→DataW.TrodAll enc P w 0 (fun _=>true) true ts vs ds ps→(∀ p∈ps,sp p.block=true)→DataW.TrodAll enc P w' 0 sp true ts vs ds ps
 | [],_,_,_,_,h,_=>by obtain⟨rfl,rfl,rfl⟩:=trodAll_nil h; exact rfl
 | t :: ts, _, _, _, hk, h, hsp => by
  obtain⟨v,vs1,d,ds1,a,b,rfl,rfl,rfl,⟨fuel,h1⟩,h2⟩:=trodAll_cons h
  obtain⟨n,hn⟩:=again (sp:=sp) ho fuel (hk t (List.mem_cons_self ..)) h1 (fun p hp=>hsp p (List.mem_append_left _ hp))
  exact⟨a,b,⟨n,hn⟩,zGh ho (fun t ht=>hk t (List.mem_cons_of_mem _ ht)) h2 (fun p hp=>hsp p (List.mem_append_right _ hp)),rfl⟩
theorem zPg {w w' : World} {H' : Hp} (hk : Kept (rowsOf w) w w' H') (hs : Sat w'.heap H') (hl : (rowsOf w).le H') : Old w w' := by
 intro b hb
 cases hr:rowsOf w b with
 | none=>exact hk.same b hb hr
 | some o =>
  have hr':=hr
  unfold rowsOf at hr'
  split at hr'
  ·rename_i c T fz hh
   cases hr'
   obtain⟨c',T',fz',hh',hsz,hp,_⟩:=hs b _ (hl b _ hr)
   have hshape:=(hk.shape b hb (by rw [hr]; exact fun h=>h.elim)).1
   rw [hh,hh'] at hshape ⊢
   simp only [shp,Option.some.injEq,Prod.mk.injEq] at hshape
   obtain⟨rfl,rfl,_⟩:=hshape
   have : c' = c := by
    apply Array.toList_inj.1
    exact(hp.eq_of_length (by simpa using hsz.symm)).symm
   rw [this]
  ·cases hr'
theorem zKg {w w' : World} (ho : Old w w') (h1 : w'.os = w.os) (h2 : w'.output = w.output) (may : MemPlace → Prop) : w.keptBut w' may := by
 refine⟨h1,h2,fun i hi=>?_⟩
 rw [ho i hi]
 cases hh:w.heap[i]? with
 | none=>trivial
 | some o=>cases o<;>first | exact⟨rfl,rfl,rfl,fun _ _=>rfl⟩ | exact .inr ⟨rfl,rfl⟩ | trivial | rfl
end Go.SL
/- The table record.rules in memory: from what its reading says to its cells. -/
namespace Go.SL
open Go Go.ChangeShapes Go.WideShapes
section
variable {D:Type} {enc:TypeId × Value→D} {P:Program} {w:World} {base:Nat} {sp:Nat→Bool} {held:Bool}
def zMl (r:zKL):DataW D:=.agg [.lit (.int .i64 r.text),.lit (.int .i64 r.leastN),.lit (.int .i64 r.mostN),.lit (.int .i64 r.leastM),.lit (.int .i64 r.mostM),.lit (.bool r.even),.lit (.bool r.single),.lit (.bool r.wild)]
def zQI:DataW D:=.agg (rules.map zMl)
structure zRx (P : Program) where
 arr:TypeId
 rule:TypeId
 int:TypeId
 bool:TypeId
 harr:P.underlying arr=some (.array 9 rule)
 hrule:zBa P rule [(0,int),(1,int),(2,int),(3,int),(4,int),(5,bool),(6,bool),(7,bool)]
 hint:P.underlying int=some (.int .i64)
 hbool:P.underlying bool=some .bool
 carr:P.cellsOf arr=72
 crule:P.cellsOf rule=8
 cint:P.cellsOf int=1
 cbool:P.cellsOf bool=1
theorem zGS {t : TypeId} {n : Nat} {cs : List Value} {y : DataW D × List MemPlace} {a : Int} (ht : P.underlying t = some (.int .i64)) (h : DataW.trod enc P w base sp held n t cs = some y) (hy : y.1 = .lit (.int .i64 a)) : cs = [.int .i64 a] := by
 obtain⟨m,rfl,rfl,_⟩:=DataW.trod_int ht h
 simp only [DataW.lit.injEq,Lit.int.injEq,true_and] at hy
 rw [hy]
theorem zKD {t : TypeId} {n : Nat} {cs : List Value} {y : DataW D × List MemPlace} {a : Bool} (ht : P.underlying t = some .bool) (h : DataW.trod enc P w base sp held n t cs = some y) (hy : y.1 = .lit (.bool a)) : cs = [.bool a] := by
 obtain⟨m,rfl,rfl⟩:=DataW.trod_bool ht h
 simp only [DataW.lit.injEq,Lit.bool.injEq] at hy
 rw [hy]
theorem ySH {fs : Array Field} {l : List (Nat × TypeId)} (hl : fs.toList.map (fun f => (f.offset, f.type)) = l) {i o : Nat} {t : TypeId} (hi : l[i]? = some (o, t)) : ∃ f, fs[i]? = some f ∧ f.offset = o ∧ f.type = t := by
 subst hl
 simp only [List.getElem?_map,Array.getElem?_toList,Option.map_eq_some_iff,Prod.mk.injEq] at hi
 obtain⟨f,h1,h2,h3⟩:=hi
 exact⟨f,h1,h2,h3⟩
theorem yGw (R : zRx P) {fuel : Nat} {cs : List Value} {p : List MemPlace} {r : zKL} (h : DataW.trod enc P w base sp held fuel R.rule cs = some (zMl r, p)) : cs = zDf r := by
 obtain⟨fs,hu,hl⟩:=R.hrule
 obtain⟨xs,n,_,hx,hlen,hxl,hf⟩:=DataW.trod_struct hu h
 rw [R.crule] at hlen
 have hd : xs.map (·.1) = [.lit (.int .i64 r.text), .lit (.int .i64 r.leastN), .lit (.int .i64 r.mostN), .lit (.int .i64 r.leastM), .lit (.int .i64 r.mostM), .lit (.bool r.even), .lit (.bool r.single), .lit (.bool r.wild)] := by
  have:=congrArg Prod.fst hx
  simp only [zMl,DataW.agg.injEq] at this
  exact this.symm
 have key : ∀ (i o : Nat) (t : TypeId) (d : DataW D), [(0, R.int), (1, R.int), (2, R.int), (3, R.int), (4, R.int), (5, R.bool), (6, R.bool), (7, R.bool)][i]? = some (o, t) → (xs.map (·.1))[i]? = some d →
   ∃ y,DataW.trod enc P w base sp held n t ((cs.drop o).take (P.cellsOf t))=some y∧y.1=d:=by
  intro i o t d hi hdi
  obtain⟨f,h1,rfl,rfl⟩:=ySH hl hi
  simp only [List.getElem?_map,Option.map_eq_some_iff] at hdi
  obtain⟨y,hy,hyd⟩:=hdi
  exact⟨y,(hf i f h1).trans hy,hyd⟩
 rw [hd] at key
 obtain ⟨c0, c1, c2, c3, c4, c5, c6, c7, rfl⟩ : ∃ c0 c1 c2 c3 c4 c5 c6 c7, cs = [c0, c1, c2, c3, c4, c5, c6, c7] := by
  match cs,hlen with
  | [c0,c1,c2,c3,c4,c5,c6,c7],_=>exact⟨_,_,_,_,_,_,_,_,rfl⟩
 obtain⟨_,h0,e0⟩:=key 0 0 R.int _ rfl rfl
 obtain⟨_,h1,e1⟩:=key 1 1 R.int _ rfl rfl
 obtain⟨_,h2,e2⟩:=key 2 2 R.int _ rfl rfl
 obtain⟨_,h3,e3⟩:=key 3 3 R.int _ rfl rfl
 obtain⟨_,h4,e4⟩:=key 4 4 R.int _ rfl rfl
 obtain⟨_,h5,e5⟩:=key 5 5 R.bool _ rfl rfl
 obtain⟨_,h6,e6⟩:=key 6 6 R.bool _ rfl rfl
 obtain⟨_,h7,e7⟩:=key 7 7 R.bool _ rfl rfl
 simp only [R.cint,R.cbool,List.drop_zero,List.drop_succ_cons,List.take_succ_cons,List.take_zero] at h0 h1 h2 h3 h4 h5 h6 h7
 have:=zGS R.hint h0 e0
 have:=zGS R.hint h1 e1
 have:=zGS R.hint h2 e2
 have:=zGS R.hint h3 e3
 have:=zGS R.hint h4 e4
 have:=zKD R.hbool h5 e5
 have:=zKD R.hbool h6 e6
 have:=zKD R.hbool h7 e7
 simp_all [zDf]
theorem zSn (R : zRx P) {fuel : Nat} {cs : List Value} {p : List MemPlace} (h : DataW.trod enc P w base sp held fuel R.arr cs = some (zQI, p)) : cs = zBT := by
 cases fuel with
 | zero=>simp [DataW.trod] at h
 | succ fuel =>
  simp only [DataW.trod,R.harr,R.carr,R.crule] at h
  split at h
  ·rename_i hl
   obtain⟨xs,hm,hx⟩:=Option.map_eq_some_iff.1 h
   have hxs : xs.map (·.1) = rules.map zMl := by
    have:=congrArg Prod.fst hx
    simpa [zQI] using this
   have hrow : ∀ i, i < 9 → (cs.drop (i * 8)).take 8 = zDf (rules.getD i default) := by
    intro i hi
    obtain⟨b,hb,hf⟩:=Lib.mapM_at hm i i (by simp [hi])
    have h1:(xs.map (·.1))[i]? = some b.1:=by simp [hb]
    have hlt:i < rules.length:=hi
    rw [hxs,List.getElem?_map,List.getElem?_eq_getElem hlt] at h1
    simp only [Option.map_some,Option.some.injEq] at h1
    have e:rules.getD i default=rules[i]:=by simp [List.getD_eq_getElem?_getD,List.getElem?_eq_getElem hlt]
    rw [e]
    exact yGw R (p:=b.2) (hf.trans (by rw [h1]))
   have:=zIq (n:=9) (sz:=8) (row:=fun i=>zDf (rules.getD i default)) (by omega) hrow
   rw [this]
   rfl
  ·cases h
end
end Go.SL
