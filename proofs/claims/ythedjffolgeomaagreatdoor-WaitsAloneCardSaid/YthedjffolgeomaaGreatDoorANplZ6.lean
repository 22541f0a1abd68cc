/- The seat: what is owed of the library, as contracts; the types of the arguments; the law's contract. -/
import Derived.Test.YthedjffolgeomaaGreatDoorANplZ1
import Derived.Test.YthedjffolgeomaaGreatDoorANplZ4
import Derived.Test.YthedjffolgeomaaGreatDoorANplQ
import Derived.Test.YthedjffolgeomaaGreatDoorANplX14
import Derived.Test.YthedjffolgeomaaGreatDoorANplW6
namespace Go.SL
open Go Go.Proofs Go.Sort
theorem zHF : ∀ a b : Bs, Lib.compareBytes a b = wJ a b
 | [],[]=>rfl
 | [],_ :: _=>rfl
 | _ :: _,[]=>by simp [Lib.compareBytes,wJ,Op.bytesLess]
 | a :: x, b :: y => by
  have ih:=zHF x y
  simp only [Lib.compareBytes,ih,wJ,Op.bytesLess]
  by_cases h1:a < b
  ·simp [h1]
  ·by_cases h2:b < a
   ·have hne:a≠b:=by rintro rfl; exact h1 h2
    simp [h1,h2,hne]
   ·have he : a = b := by
     apply UInt8.toNat_inj.1
     have g1:¬ a.toNat < b.toNat:=fun h=>h1 (UInt8.lt_iff_toNat_lt.2 h)
     have g2:¬ b.toNat < a.toNat:=fun h=>h2 (UInt8.lt_iff_toNat_lt.2 h)
     omega
    subst he
    simp [h1]
theorem yB.of_same {E : Env} {k : Nat} {args : List Value} {H : Hp} {v : Value} (h : ∀ w, Calls E.P (E.fn k) args.toArray w fun e w' => e = .returned v ∧ w' = w) : yB E k args H v := by
 intro w hw
 refine(h w).mono ?_
 rintro e w' ⟨rfl,rfl⟩
 exact⟨_,H,rfl,hw,⟨rfl,rfl,rfl,Nat.le_refl _,fun _ _ _=>rfl,fun b o hb=>.inl (by rw [hb]; simp),fun _ _ ht=>⟨rfl,ht⟩⟩,rfl,Hp.le.refl _⟩
theorem zIl (w : World) (k : Nat) (os : Array Obj) {b : Nat} (hb : b < w.heap.size) : (grow (w.drewN k) os).heap[b]? = w.heap[b]? := by
 have:(grow (w.drewN k) os).heap=w.heap ++ os:=rfl
 rw [this,Array.getElem?_append_left hb]
theorem yB.of_grow {E : Env} {f : Nat} {args : List Value} {H : Hp} {v : Value} (h : ∀ w, Sat w.heap H → Calls E.P (E.fn f) args.toArray w fun e w' => e = .returned v ∧ ∃ k os, w' = grow (w.drewN k) os) : yB E f args H v := by
 intro w hw
 refine(h w hw).mono ?_
 rintro e w' ⟨rfl,k,os,rfl⟩
 refine⟨_,H,rfl,fun b o hb=>?_,⟨rfl,rfl,rfl,?_,fun b hb _=>zIl w k os hb,fun b o hb=>.inl (by rw [hb]; simp),fun b hb ht=>⟨by rw [zIl w k os hb],ht⟩⟩,rfl,Hp.le.refl _⟩
 ·rw [zIl w k os (hw.lt hb)]; exact hw b o hb
 ·have:(grow (w.drewN k) os).heap=w.heap ++ os:=rfl
  rw [this,Array.size_append]; omega
theorem zQQ {w w' : World} {H : Hp} {b : Nat} {c c' : Array Value} {T T' : TypeId} {fz fz' : Nat × Nat} (hw : Sat w.heap H) (hb : H b = some (.obj (.cells c T fz))) (hb' : w'.heap[b]? = some (.cells c' T' fz')) (ho : ∀ a, a ≠ b → w'.heap[a]? = w.heap[a]?)
  (h1:w'.os=w.os) (h2:w'.tape=w.tape) (h3:w'.output=w.output) (h4:w'.heap.size=w.heap.size) :
  Sat w'.heap (H.put b (.obj (.cells c' T' fz')))∧Kept H w w' (H.put b (.obj (.cells c' T' fz'))):=by
 refine⟨fun a o ha=>?_,h1,h2,h3,by omega,fun a _ hn=>ho a (by rintro rfl; rw [hb] at hn; cases hn),fun a o ha=>.inl ?_,fun a _ ht=>?_⟩
 ·by_cases e:a=b
  ·subst e; rw [Hp.put_same] at ha; cases ha; exact hb'
  ·rw [Hp.put_ne _ _ e] at ha; rw [ho a e]; exact hw a o ha
 ·by_cases e:a=b
  ·subst e; rw [hb]; simp
  ·rw [Hp.put_ne _ _ e] at ha; rw [ha]; simp
 ·have e:a≠b:=by rintro rfl; rw [hb] at ht; exact ht trivial
  rw [ho a e,Hp.put_ne _ _ e]
  exact⟨rfl,ht⟩
theorem yRN {w w' : World} {H : Hp} {b : Nat} {c : Array Value} {T : TypeId} {fz : Nat × Nat} (hw : Sat w.heap H) (hb : H b = some (.obj (.cells c T fz))) (ho : ∀ a, a ≠ b → w'.heap[a]? = w.heap[a]?)
  (h1:w'.os=w.os) (h2:w'.tape=w.tape) (h3:w'.output=w.output) (h4:w'.heap.size=w.heap.size) :
  Sat w'.heap (H.del b)∧Kept H w w' (H.del b):=by
 have key : ∀ a o, (H.del b) a = some o → a ≠ b ∧ H a = some o := fun a o ha => by
  by_cases e:a=b
  ·subst e; rw [Hp.del_same] at ha; cases ha
  ·rw [Hp.del_ne _ e] at ha; exact⟨e,ha⟩
 refine⟨fun a o ha=>?_,h1,h2,h3,by omega,fun a _ hn=>ho a (by rintro rfl; rw [hb] at hn; cases hn),fun a o ha=>.inl (by rw [(key a o ha).2]; simp),fun a _ ht=>?_⟩
 ·obtain⟨e,h⟩:=key a o ha
  rw [ho a e]; exact hw a o h
 ·have e:a≠b:=by rintro rfl; rw [hb] at ht; exact ht trivial
  rw [ho a e,Hp.del_ne _ e]
  exact⟨rfl,ht⟩
theorem zHH (w : World) (b : Nat) (v : Value) (a : Nat) : (w.setCell ⟨b, 0, none⟩ v).heap[a]? = if b = a then (w.heap[a]?).map (fun o => match o with
   | .cells c elem frozen=>Obj.cells (c.setIfInBounds 0 v) elem frozen
   | o=>o) else w.heap[a]?:=by
 unfold World.setCell
 rw [Array.getElem?_modify]
 by_cases e:b=a
 ·simp only [e,if_true]
  cases w.heap[a]? with
  | none=>rfl
  | some o=>cases o<;>rfl
 ·simp only [e,if_false]
theorem zOz (w : World) (g n a : Nat) (e : a ≠ g) : (w.freeze ⟨g, 0, none⟩ n).heap[a]? = w.heap[a]? := by
 unfold World.freeze
 split
 ·rfl
 ·simp [Array.getElem?_modify,Ne.symm e]
theorem zSB (w : World) (g n : Nat) : (w.freeze ⟨g, 0, none⟩ n).os = w.os ∧ (w.freeze ⟨g, 0, none⟩ n).tape = w.tape ∧ (w.freeze ⟨g, 0, none⟩ n).output = w.output ∧ (w.freeze ⟨g, 0, none⟩ n).heap.size = w.heap.size := by
 unfold World.freeze
 split
 ·exact⟨rfl,rfl,rfl,rfl⟩
 ·exact⟨rfl,rfl,rfl,by simp⟩
theorem yVt:zD.fn 105=203:=by kernel_rfl
theorem yWs:zD.fn 145=149:=by kernel_rfl
theorem yWh:zD.fn 134=90:=by kernel_rfl
theorem yVu:zD.fn 137=88:=by kernel_rfl
theorem yWg:zD.fn 133=89:=by kernel_rfl
theorem yWj:zD.fn 169=170:=by kernel_rfl
theorem yYg:zD.gl 75=0:=by kernel_rfl
theorem yKE:zD.gl 180=2:=by kernel_rfl
theorem yJD:zD.gl 181=161:=by kernel_rfl
theorem yVs:zD.gl 182=5:=by kernel_rfl
theorem yUa (H : Hp) (a b : Bs) : yB zD 105 [S a, S b] H (.int .i64 (wJ a b)) := by
 refine yB.of_same fun w=>?_
 have h:=Tryz.cmpStr0 ⟨a.toArray⟩ ⟨b.toArray⟩ w
 rw [yVt]
 have e:=zHF a b
 simp only at h
 rw [e] at h
 exact h
theorem xAx (H : Hp) (a b : Int) : yB zD 169 [.int .i64 a, .int .i64 b] H (.bool (decide (a < b))) := by
 refine yB.of_same fun w=>?_
 rw [yWj]
 exact Tryz.less0 a b w
theorem yVU:Tryz.prog.globalNamed nmPow=some 2:=by kernel_rfl
theorem yLt:(Lib.pow10Tab.map fun z=>Value.int .u64 z)=zCY:=rfl
theorem yKl {H : Hp} {w : World} (hw : Sat w.heap H) (h : uD zD H) : Lib.TabIs Tryz.prog w nmPow .u64 Lib.pow10Tab := by
 obtain⟨wr,h⟩:=h
 rw [yKE] at h
 obtain⟨c,T,fz,hc,hsz,hp,_⟩:=hw _ _ h
 have hc20:c.toList.length=20:=by rw [Array.length_toList,hsz]
 have e:zCY=c.toList:=hp.eq_of_length (by rw [hc20]; rfl)
 unfold Lib.TabIs World.var?
 rw [yVU]
 simp only [Option.bind_some,hc]
 rw [yLt,e]
theorem xBQ (H : Hp) (b : Nat) (p v : Value) (hb : H b = some (.obj (.cells #[p, v] (zD.gl 181) (0, 0)))) (hp : p = .pointer none ∨ p = .pointer (some ⟨b, 0, none⟩)) :
  Fn zD.P (zD.fn 145) [.pointer (some ⟨b,0,none⟩)] H (fun _ H'=>H'=H.put b (.obj (.cells #[.pointer (some ⟨b,0,none⟩),v] (zD.gl 181) (0,0)))):=by
 intro w hw
 have hbw:w.heap[b]? = some (.cells #[p,v] (zD.gl 181) (0,0)):=hw _ _ hb
 rw [yWs]
 rcases hp with rfl | rfl
 ·have h:=Tryz.chk_fresh b w (by simp [World.cell?,hbw]) (by simp [World.shape?,hbw,yJD]) (by simp [World.frozen?,hbw])
  refine Calls.mono (P:=Tryz.prog) h ?_
  rintro e w' ⟨rfl,rfl⟩
  obtain⟨h1,h2⟩:=zQQ (w':=w.setCell ⟨b,0,none⟩ (.pointer (some ⟨b,0,none⟩))) (c':=#[.pointer (some ⟨b,0,none⟩),v]) (T':=zD.gl 181) (fz':=(0,0)) hw hb (by rw [zHH,if_pos rfl,hbw]; rfl) (fun a ha=>by rw [zHH,if_neg (Ne.symm ha)]) rfl rfl rfl (by simp)
  exact⟨_,_,rfl,h1,h2,rfl⟩
 ·have h:=Tryz.chk_used b w (by simp [World.cell?,hbw])
  refine Calls.mono (P:=Tryz.prog) h ?_
  rintro e w' ⟨rfl,rfl⟩
  obtain⟨h1,h2⟩:=zQQ (w':=w') (c':=#[.pointer (some ⟨b,0,none⟩),v]) (T':=zD.gl 181) (fz':=(0,0)) hw hb hbw (fun _ _=>rfl) rfl rfl rfl rfl
  exact⟨_,_,rfl,h1,h2,rfl⟩
theorem xBd (H : Hp) (b bb cap : Nat) (l : Bs) (c : Array Value) (p : Value) (_ : bb ≠ b) (hb : H b = some (.obj (.cells #[p, .slice (some ⟨bb, 0, none⟩) l.length cap] (zD.gl 181) (0, 0)))) (hbb : H bb = some (.obj (.cells c (zD.gl 182) (0, 0))))
  (hcs:c.size=cap) (hle:l.length≤cap) (htk:c.toList.take l.length=pD l) (h0:l≠[]) (hl:l.length≤1000000000):Fn zD.P (zD.fn 134) [.pointer (some ⟨b,0,none⟩)] H (fun u H'=>u=S l∧H'=H.del bb):=by
 intro w hw
 have hbw:w.heap[b]? = some (.cells #[p,.slice (some ⟨bb,0,none⟩) l.length cap] (zD.gl 181) (0,0)):=hw _ _ hb
 have hgw:w.heap[bb]? = some (.cells c (zD.gl 182) (0,0)):=hw _ _ hbb
 rw [yWh]
 have h := Tryz.str0 b bb cap p c l w h0 (by rw [hbw, yJD]) (by rw [hgw, yVs]) hcs hle hl (fun j x hx => by
  have hj:j < l.length:=(List.getElem?_eq_some_iff.1 hx).1
  have h1:(c.toList.take l.length)[j]? = some (.int .u8 x.toNat):=by rw [htk,pD,List.getElem?_map,hx]; rfl
  rw [List.getElem?_take_of_lt hj,Array.getElem?_toList] at h1
  simp [World.cell?,hgw,h1])
 refine Calls.mono (P:=Tryz.prog) h ?_
 rintro e w' ⟨rfl,k,rfl⟩
 have hr:=zSB (w.drewN k) bb l.length
 obtain⟨h1,h2⟩:=yRN (w:=w) (w':=(w.drewN k).freeze ⟨bb,0,none⟩ l.length) hw hbb (fun a ha=>zOz (w.drewN k) bb l.length a ha) hr.1 hr.2.1 hr.2.2.1 hr.2.2.2
 exact⟨_,_,rfl,h1,h2,rfl,rfl⟩
theorem yYz (H : Hp) (n : Int) (hB : uD zD H) (h0 : -9223372036854775808 ≤ n) (h1 : n ≤ 9223372036854775807) : yB zD 137 [.int .i64 n] H (S (Lib.itoa n)) := by
 refine yB.of_grow fun w hw=>?_
 rw [yVu]
 exact Tryz.itoa0 n h0 h1 w (yKl hw hB)
theorem yWC (H : Hp) (n : Int) (hB : uD zD H) (h0 : 0 ≤ n) (h1 : n ≤ 18446744073709551615) : yB zD 133 [.int .u64 n, .int .i64 10] H (S (Lib.itoa n)) := by
 refine yB.of_grow fun w hw=>?_
 rw [yWg]
 exact Tryz.fmtU0 n h0 h1 w (yKl hw hB)
theorem yTp:zBz zD:=⟨xBQ,xBd,yYz,yWC⟩
theorem xAq:zJF zD:=⟨xAx⟩
theorem xAZ:zB zD (zD.fn 98) yIf=true:=by kernel_rfl
theorem yQj:zX zD:=yVy (fun _ l hl=>xCs xAZ l hl) yUa
theorem yZO (H:Hp) (hB:qU zD H) (hB2:uD zD H):yB zD 183 [] H (.bool true):=yXd yQj zUN zTA yAG yTp xAq hB hB2
def yNc (P : Program) (t : TypeId) : List (Nat × TypeId) := match P.underlying t with
 | some (.struct fs)=>fs.toList.map fun f=>(f.offset,f.type)
 | _=>[]
theorem jM {P : Program} {t : TypeId} {l : List (Nat × TypeId)} (h : yNc P t = l) (hl : l ≠ []) : zAY P t l := by
 unfold yNc at h
 split at h
 ·rename_i fs hu; exact⟨fs,hu,h⟩
 ·exact absurd h.symm hl
noncomputable def tys : Tys Tryz.prog where
 string:=9
 int:=3
 u64:=81
 datum:=94
 datums:=24
 sig:=83
 sigs:=44
 set:=26
 signed:=46
 signeds:=60
 zone:=71
 copy:=73
 copies:=23
 host:=90
 hosts:=22
 ints:=27
 hist:=29
 hstring:=by kernel_rfl
 hint:=by kernel_rfl
 hu64:=by kernel_rfl
 hdatums:=by kernel_rfl
 hsigs:=by kernel_rfl
 hsigneds:=by kernel_rfl
 hcopies:=by kernel_rfl
 hhosts:=by kernel_rfl
 hints:=by kernel_rfl
 hdatum:=jM (by kernel_rfl) (by simp)
 hsig:=jM (by kernel_rfl) (by simp)
 hset:=jM (by kernel_rfl) (by simp)
 hsigned:=jM (by kernel_rfl) (by simp)
 hzone:=jM (by kernel_rfl) (by simp)
 hcopy:=jM (by kernel_rfl) (by simp)
 hhost:=jM (by kernel_rfl) (by simp)
 hhist:=jM (by kernel_rfl) (by simp)
 cstring:=by kernel_rfl
 cint:=by kernel_rfl
 cu64:=by kernel_rfl
 cdatums:=by kernel_rfl
 csigs:=by kernel_rfl
 csigneds:=by kernel_rfl
 ccopies:=by kernel_rfl
 chosts:=by kernel_rfl
 cints:=by kernel_rfl
 cdatum:=by kernel_rfl
 csig:=by kernel_rfl
 cset:=by kernel_rfl
 csigned:=by kernel_rfl
 czone:=by kernel_rfl
 ccopy:=by kernel_rfl
 chost:=by kernel_rfl
 chist:=by kernel_rfl
noncomputable def yWe : zRV Tryz.prog where
 arr:=300
 rule:=299
 int:=3
 bool:=4
 harr:=by kernel_rfl
 hrule:=jM (by kernel_rfl) (by simp)
 hint:=by kernel_rfl
 hbool:=by kernel_rfl
 carr:=by kernel_rfl
 crule:=by kernel_rfl
 cint:=by kernel_rfl
 cbool:=by kernel_rfl
end Go.SL
