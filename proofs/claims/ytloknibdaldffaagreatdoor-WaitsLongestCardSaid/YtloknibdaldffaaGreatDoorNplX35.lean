/- Rules: maps of numbers whose entries' births are known; calls of values in a larger memory; ranging over keys. -/
import Derived.Test.YtloknibdaldffaaGreatDoorNplV5
import Derived.Test.YtloknibdaldffaaGreatDoorNplV8
import Derived.Test.YtloknibdaldffaaGreatDoorNplV3
import Derived.Test.YtloknibdaldffaaGreatDoorNplX32
namespace Go.SL
open Go
variable {E : Env} {H : Hp}
theorem Fn.weaken {P : Program} {f : FuncId} {args : List Value} {H : Hp} {Q : Value → Hp → Prop} (h : Fn P f args H (fun u H' => ∃ Hi : Hp, Hi.le H' ∧ Q u Hi)) : Fn P f args H Q := fun w hw =>
 (h w hw).mono fun _ _ ⟨v,_H',he,hs,hk,Hi,hle,hq⟩ => ⟨v,Hi,he,hs.le hle,⟨hk.os,hk.tape,hk.output,hk.size,hk.same,fun b o hb => hk.fresh b o (hle b o hb),fun b hb ht => ⟨(hk.shape b hb ht).1,fun hx => (hk.shape b hb ht).2 (hx.le hle)⟩⟩,hq⟩
theorem FnV.frame {x : Value} {args : List Value} {G H : Hp} {Q : Value → Hp → Prop} (h : FnV E x args G Q) (hle : G.le H) :
  FnV E x args H (fun u H'' => ∃ H2,Q u H2 ∧ H2.le H'' ∧ ∀ c o,H c = some o → G c = none → H2 c = none ∧ H'' c = some o) := by
 intro w hw
 refine (h w (hw.le hle)).mono ?_
 rintro e w' ⟨v,H2,he,hs,hk,hq⟩
 have hG : ∀ c, H c = none → G c = none := fun c hc => by
  cases hx : G c with
  | none => rfl
  | some o => rw [hle c o hx] at hc; cases hc
 refine ⟨v,fun c => match H2 c with | some o => some o | none => if G c = none then H c else none,he,?_,?_,H2,hq,?_,?_⟩
 ·intro b o hb
  simp only at hb
  cases h2 : H2 b with
  | some o' => rw [h2] at hb; simp only at hb; cases hb; exact hs b o h2
  | none =>
   rw [h2] at hb
   simp only at hb
   split at hb
   ·rename_i hg
    rw [hk.same b (hw.lt hb) hg]
    exact hw b o hb
   ·cases hb
 ·refine ⟨hk.os, hk.tape, hk.output, hk.size, fun b hb h0 => hk.same b hb (hG b h0), fun b o hb => ?_, fun b hb ht => by
   have hs2 := hk.shape b hb (fun hx => ht (hx.le hle))
   refine ⟨hs2.1,fun hx => ?_⟩
   cases h2 : H2 b with
   | some o => simp only [h2] at hx; exact hs2.2 (by rw [h2]; exact hx)
   | none =>
    simp only [h2] at hx
    split at hx
    ·exact ht hx
    ·exact hx.elim⟩
  cases h2 : H2 b with
  | some o' =>
   rcases hk.fresh b o' h2 with hx | hx
   ·exact .inl fun h0 => hx (hG b h0)
   ·exact .inr hx
  | none =>
   rw [h2] at hb
   simp only at hb
   split at hb
   ·exact .inl (by rw [hb]; simp)
   ·cases hb
 ·intro c o hc
  simp only [hc]
 ·intro c o hc hg
  have hn : H2 c = none := by
   cases h2 : H2 c with
   | none => rfl
   | some o' =>
    rcases hk.fresh c o' h2 with hx | hx
    ·exact absurd hg hx
    ·exact absurd (hw.lt hc) (Nat.not_lt.2 hx)
  exact ⟨hn,by simp only [hn,hg,if_true]; exact hc⟩
def mapEs (l : List (Int × Bool)) : Array MapEntry := (l.mapIdx fun i e => { key := .int .i64 e.1,val := .bool e.2,born := i }).toArray
theorem mapEs_size (l : List (Int × Bool)) : (mapEs l).size = l.length := by simp [mapEs]
theorem mapEs_get (l : List (Int × Bool)) {i : Nat} (hi : i < (mapEs l).size) : (mapEs l)[i] = { key := .int .i64 (l.getD i default).1, val := .bool (l.getD i default).2, born := i } := by
 have hl : i < l.length := by rw [mapEs_size] at hi; exact hi
 simp [mapEs,hl]
theorem mapEs_kv (l : List (Int × Bool)) : (mapEs l).toList.map (fun e => (e.key, e.val)) = l.map fun e => (Value.int .i64 e.1, Value.bool e.2) := by
 apply List.ext_getElem
 ·simp [mapEs]
 ·intro i h1 h2
  simp [mapEs]
def MapI (H : Hp) (m : Nat) (l : List (Int × Bool)) : Prop := H m = some (.obj (.map (mapEs l) l.length))
theorem mapEs_push (l : List (Int × Bool)) (k : Int) (v : Bool) : (mapEs l).push { key := .int .i64 k, val := .bool v, born := l.length } = mapEs (l ++ [(k, v)]) := by
 apply Array.ext
 ·simp [mapEs]
 ·intro i h1 h2
  simp only [Array.size_push,mapEs_size] at h1
  rw [mapEs_get]
  by_cases e : i < l.length
  ·rw [Array.getElem_push_lt (by rw [mapEs_size]; exact e),mapEs_get]
   simp [List.getElem?_append_left e]
  ·have : i = l.length := by omega
   subst this
   rw [Array.getElem_push]
   simp [mapEs_size]
theorem mapEs_modify (l l' : List (Int × Bool)) (hl : l'.length = l.length) (j : Nat) (k : Int) (v : Bool)
  (h : ((mapEs l).toList.modify j fun e => { e with key := .int .i64 k,val := .bool v }).map (fun e => (e.key,e.val)) = l'.map fun e => (Value.int .i64 e.1,Value.bool e.2)) :
  (mapEs l).modify j (fun e => { e with key := .int .i64 k,val := .bool v }) = mapEs l' := by
 apply Array.ext
 ·simp [mapEs,hl]
 ·intro i h1 h2
  have hil : i < l.length := by simpa [mapEs] using h1
  have hi' : i < l'.length := by omega
  have hkv := congrArg (fun L => L[i]?) h
  simp only [List.getElem?_map,List.getElem?_modify,List.getElem?_eq_getElem hi',Array.getElem?_toList,Array.getElem?_eq_getElem (show i < (mapEs l).size by rw [mapEs_size]; exact hil),Option.map_some] at hkv
  rw [Array.getElem_modify,mapEs_get l' h2,mapEs_get l (by rw [mapEs_size]; exact hil)]
  rw [mapEs_get l (by rw [mapEs_size]; exact hil)] at hkv
  have hgd : l'.getD i default = l'[i] := by rw [List.getD_eq_getElem?_getD,List.getElem?_eq_getElem hi']; rfl
  by_cases e : j = i
  ·have hkv' : some (Value.int IntKind.i64 k,Value.bool v) = some (Value.int IntKind.i64 l'[i].1,Value.bool l'[i].2) := by rw [← hkv]; simp [e]
   simp only [Option.some.injEq,Prod.mk.injEq] at hkv'
   rw [if_pos e,hgd,← hkv'.1,← hkv'.2]
  ·have hkv' : some (Value.int IntKind.i64 (l.getD i default).1,Value.bool (l.getD i default).2) = some (Value.int IntKind.i64 l'[i].1,Value.bool l'[i].2) := by rw [← hkv]; simp [e]
   simp only [Option.some.injEq,Prod.mk.injEq] at hkv'
   rw [if_neg e,hgd,hkv'.1,hkv'.2]
section
variable {fr : Fr} {Q : X → Fr → Hp → Prop} {k : List Item} {d : Option Nat} {r : List AOper} {live : List Nat}
theorem mput_len_same {κ ν : Type} [DecidableEq κ] {k : κ} {v u : ν} : ∀ {l : List (κ × ν)}, mget k l = some u → (mput k v l).length = l.length
 | [],h => by cases h
 | (k', v') :: r, h => by
  simp only [mget] at h
  simp only [mput]
  split at h
  ·rename_i e; rw [if_pos e]; rfl
  ·rename_i e; rw [if_neg e,List.length_cons,mput_len_same h]; rfl
theorem vks_updI {m x y : Arg} {l : List (Int × Bool)} {b : Nat} (key : Int) (val : Bool) (h1 : vok fr m) (h2 : vok fr x) (h3 : vok fr y) (hm : vo E fr m = .map (some b)) (hx : vo E fr x = .int .i64 key) (hy : vo E fr y = .bool val)
  (hM : MapI H b l) (h : vks E (.ops r live :: k) (setD fr d ⟨true,.val undef⟩) (H.put b (.obj (.map (mapEs (mput key val l)) (mput key val l).length))) Q) :
  vks E (.ops (⟨d,.upd false [.i] m x y,none⟩ :: r) live :: k) fr H Q := by
 have hH : H b = some (.obj (.map (mapEs l) l.length)) := hM
 simp only [vks,evs,ev1,gok,gcond,big] at h ⊢
 refine ⟨trivial,fun _ => ⟨h1,h2,h3,by rw [hx]; trivial,?_⟩,fun e => by cases e⟩
 have hf := mfind_enc (enc := fun n : Int => Value.int .i64 n) (encv := fun b : Bool => Value.bool b) keyI key (mapEs l).toList l 0 (mapEs_kv l)
 simp only [hm,hH,hx,hy]
 cases hg : mget key l with
 | none =>
  rw [hf.1 hg]
  rw [mput_new hg,List.length_append,← mapEs_push] at h
  exact h
 | some v =>
  obtain ⟨j,_,hj,hmod⟩ := hf.2 v hg
  rw [hj]
  have hmm := hmod (fun e => { e with key := .int .i64 key,val := .bool val }) val (fun e => ⟨rfl,rfl⟩)
  rw [Nat.sub_zero] at hmm
  have hee := mapEs_modify l (mput key val l) (mput_len_same hg) j key val hmm
  rw [mput_len_same hg,← hee] at h
  exact h
end
def keyVs (l : List (Int × Bool)) : List (List Value) := l.map fun e => [Value.int .i64 e.1]
theorem keyVs_range (l : List (Int × Bool)) : keyVs l = (List.range l.length).map fun i => [Value.int .i64 (l.getD i default).1] := by
 apply List.ext_getElem
 ·simp [keyVs]
 ·intro i h1 h2
  have : i < l.length := by simpa [keyVs] using h1
  simp [keyVs,this]
theorem mem_contains {s : Array Nat} {i : Nat} : s.contains i = true ↔ i ∈ s.toList := by simp
set_option maxHeartbeats 1000000 in
theorem it172 (h3 : Codes3 E) {G : Hp} {bp cp m : Nat} {wp : Bool} {l : List (Int × Bool)} (hp : G bp = some (.row [.map (some m)] cp wp)) (hm : MapI G m l) :
  Iter E (.func (.func (E.fn 172)) #[] #[.pointer (some ⟨bp,0,none⟩)]) G (fun xs => xs.Perm (keyVs l)) := by
 intro y Inv Stop H hG hy h0
 refine FnV_of_Fn h3.e172 ?_
 show Fn E.P (E.fn 172) [y,.pointer (some ⟨bp,0,none⟩)] H _
 refine Fn.weaken ?_
 have hle0 := hG _ _ h0
 have hp0 := hle0 _ _ hp
 have hm0 : H m = some (.obj (.map (mapEs l) l.length)) := hle0 _ _ hm
 refine Fn.of_vks h3.c172 (by simp [cf172]) ?_
 simp only [cf172,cf172_0,cf172_1,cf172_2,cf172_3]
 simp only [hp0,go_sem,Nat.reduceBEq,reduceCtorEq]
 refine vks_big (by intro x h; cases h) (by intro f a h; cases h) ?_
 refine ⟨?_,m,mapEs l,l.length,?_,hm0,?_⟩
 ·simp only [go_sem,Nat.reduceEqDiff,reduceCtorEq]
 ·simp only [go_sem,Nat.reduceEqDiff,reduceCtorEq]
 intro it hit
 simp only [go_sem,Nat.reduceEqDiff,Nat.reduceBEq,reduceCtorEq]
 refine vks_loopM (fun k fr' H' => fr' = [(0, ⟨true, .val y⟩), (5, ⟨true, .val (.pointer (some ⟨it, 0, none⟩))⟩)] ∧ ∃ (seen : Array Nat) (Hi : Hp), k = unseen l.length seen ∧ Hi.le H' ∧ Hi it = none ∧ H' it = some (.obj (.mapIter (some m) l.length seen l.length)) ∧
  Inv (seen.toList.map fun i => [Value.int .i64 (l.getD i default).1]) Hi ∧ seen.toList.Nodup ∧ ∀ i ∈ seen.toList,i < l.length) (unseen l.length #[]) ⟨rfl,#[],H,rfl,le_put hit _,hit,Hp.put_same ..,h0,List.nodup_nil,fun i hi => by cases hi⟩ ?_
 rintro k fr' H' ⟨rfl,seen,Hi,rfl,hle,hin,hiter,hinv,hnd,hlt⟩
 have hmi : H' m = some (.obj (.map (mapEs l) l.length)) := hle _ _ (hG _ _ hinv _ _ hm)
 have hborn : ∀ i (hi : i < (mapEs l).size),(mapEs l)[i].born = i := fun i hi => by rw [mapEs_get]
 simp only [go_sem]
 refine vks_big (by intro x h; cases h) (by intro f a h; cases h) ?_
 refine ⟨?_,it,m,l.length,seen,l.length,mapEs l,l.length,?_,hiter,hmi,Nat.le_refl _,?_,?_,?_⟩
 ·simp only [go_sem,reduceCtorEq]
 ·simp only [go_sem,reduceCtorEq]
 ·intro e he
  obtain ⟨i,hi,rfl⟩ := Array.getElem_of_mem he
  rw [hborn i hi]; rw [mapEs_size] at hi; exact hi
 ·intro hall
  simp only [go_sem,Nat.reduceLT,Nat.reduceEqDiff,Nat.reduceBEq,reduceCtorEq]
  refine ⟨Hi,hle,.inl ⟨_,?_,hinv⟩⟩
  rw [keyVs_range]
  refine List.Perm.map _ ((List.perm_ext_iff_of_nodup hnd List.nodup_range).2 fun i => ?_)
  rw [List.mem_range]
  refine ⟨hlt i,fun hi => ?_⟩
  have hi' : i < (mapEs l).size := by rw [mapEs_size]; exact hi
  have := hall _ (Array.getElem_mem hi')
  rw [hborn i hi'] at this
  exact mem_contains.1 this
 ·intro e he hs
  obtain ⟨i,hi,rfl⟩ := Array.getElem_of_mem he
  rw [hborn i hi] at hs
  have hil : i < l.length := by rw [mapEs_size] at hi; exact hi
  have hni : i ∉ seen.toList := fun hx => by rw [mem_contains.2 hx] at hs; cases hs
  obtain ⟨H1,hH1⟩ : ∃ x,x = H'.put it (.obj (.mapIter (some m) l.length (seen.push i) l.length)) := ⟨_,rfl⟩
  have hle1 : Hi.le H1 := by rw [hH1]; exact le_put_of_le hle hin _
  have hit1 : H1 it = some (.obj (.mapIter (some m) l.length (seen.push i) l.length)) := by rw [hH1,Hp.put_same]
  have hm1 : H1 m = some (.obj (.map (mapEs l) l.length)) := hle1 _ _ (hG _ _ hinv _ _ hm)
  rw [hborn i hi,← hH1]
  simp only [go_sem,Nat.reduceLT,Nat.reduceEqDiff,Nat.reduceBEq,Nat.reduceAdd,reduceCtorEq]
  refine vks_big (by intro x h; cases h) (by intro f a h; cases h) ?_
  refine ⟨?_,it,m,l.length,seen.push i,mapEs l,l.length,i,(mapEs l)[i],?_,hit1,hm1,by simp,born_find hborn hi,?_⟩
  ·simp only [go_sem,Nat.reduceEqDiff,reduceCtorEq]
  ·simp only [go_sem,Nat.reduceEqDiff,reduceCtorEq]
  rw [mapEs_get l hi]
  have hcall := (hy (seen.toList.map fun i => [Value.int .i64 (l.getD i default).1]) [Value.int .i64 (l.getD i default).1] Hi ?_ hinv).frame hle1
  rotate_left
  ·refine ⟨((List.range l.length).filter fun j => !(seen.push i).contains j).map fun i => [Value.int .i64 (l.getD i default).1],?_⟩
   rw [keyVs_range,← List.map_cons (f := fun i => [Value.int .i64 (l.getD i default).1]),← List.map_append]
   refine List.Perm.map _ ((List.perm_ext_iff_of_nodup ?_ List.nodup_range).2 fun j => ?_)
   ·rw [List.nodup_append]
    refine ⟨hnd,List.nodup_cons.2 ⟨fun hx => ?_,List.nodup_range.filter _⟩,fun a ha b hb => ?_⟩
    ·have := (List.mem_filter.1 hx).2
     simp at this
    ·rintro rfl
     rcases List.mem_cons.1 hb with rfl | hb
     ·exact hni ha
     ·have := (List.mem_filter.1 hb).2
      rw [contains_push',mem_contains.2 ha] at this
      simp at this
   ·rw [List.mem_range,List.mem_append,List.mem_cons,List.mem_filter,List.mem_range]
    constructor
    ·rintro (h | rfl | h)
     ·exact hlt j h
     ·exact hil
     ·exact h.1
    ·intro hj
     by_cases hc : (seen.push i).contains j = true
     ·rw [contains_push',Bool.or_eq_true] at hc
      rcases hc with hc | hc
      ·exact .inl (mem_contains.1 hc)
      ·exact .inr (.inl (by simpa using hc))
     ·exact .inr (.inr ⟨hj,by simpa using hc⟩)
  simp only [go_sem,Nat.reduceLT,Nat.reduceEqDiff,Nat.reduceBEq,Nat.reduceAdd,reduceCtorEq]
  refine vks_callv (by simp only [go_sem,Nat.reduceEqDiff,reduceCtorEq]) (by simp only [go_sem,Nat.reduceEqDiff,reduceCtorEq]) hcall ?_
  rintro w H2 ⟨Hj,hpost,hjle,hfr⟩
  have hitj := hfr it _ hit1 hin
  rcases hpost with ⟨rfl,hinv2⟩ | ⟨rfl,hstop⟩
  ·simp only [go_sem,Nat.reduceEqDiff,Nat.reduceBEq,reduceCtorEq]
   refine ⟨unseen l.length (seen.push i),unseen_push hil hs,seen.push i,Hj,rfl,hjle,hitj.1,hitj.2,?_,?_,?_⟩
   ·rw [Array.toList_push,List.map_append]; exact hinv2
   ·rw [Array.toList_push,List.nodup_append]
    refine ⟨hnd,by simp,fun a ha b hb => ?_⟩
    rintro rfl
    simp only [List.mem_singleton] at hb
    subst hb; exact hni ha
   ·rw [Array.toList_push]
    intro j hj
    rcases List.mem_append.1 hj with hj | hj
    ·exact hlt j hj
    ·simp only [List.mem_singleton] at hj
     subst hj; exact hil
  ·simp only [go_sem,Nat.reduceEqDiff,Nat.reduceBEq,reduceCtorEq]
   exact ⟨Hj,hjle,.inr ⟨_,hstop⟩⟩
end Go.SL
/- Contracts: the keys of a map, collected and sorted. -/
namespace Go.SL
open Go
variable {E : Env} {H : Hp}
theorem own_le' {H' H3 : Hp} {bs : Nat} {p : AObj} {ob : Option Nat} (hle : H.le H') (hbs : H' bs = none) (hob : ∀ b, ob = some b → H b = none) (hkeep : ∀ c o, (H'.put bs p) c = some o → some c ≠ ob → H3 c = some o) : H.le H3 :=
 fun c o hc => hkeep c o (le_put hbs _ _ _ (hle _ _ hc)) (fun e => by rw [hob c e.symm] at hc; cases hc)
theorem own_new' {H' : Hp} {bs b' : Nat} {p : AObj} {ob : Option Nat} (hle : H.le H') (hbs : H' bs = none) (hob : ∀ b, ob = some b → H b = none) (h : (H'.put bs p) b' = none ∨ some b' = ob) : H b' = none := by
 rcases h with h | h
 ·cases hq : H b' with
  | none => rfl
  | some o => rw [le_put hbs _ _ _ (hle _ _ hq)] at h; cases h
 ·exact hob b' h.symm
theorem fn156 (h3 : Codes3 E) (m : Nat) : Fn E.P (E.fn 156) [.map (some m)] H (fun u H' => ∃ b, H b = none ∧ u = .func (.func (E.fn 172)) #[] #[.pointer (some ⟨b, 0, none⟩)] ∧ H' = H.put b (.row [.map (some m)] 1 true)) := by
 refine Fn.of_vks h3.c156 (by simp [cf156]) ?_
 simp only [cf156,cf156_0,cf156_1]
 simp only [go_sem,Nat.reduceEqDiff,Nat.reduceBEq,reduceCtorEq]
 intro b hb
 exact ⟨b,hb,rfl,rfl⟩
theorem perm_ints {l : List (Int × Bool)} {xs : List (List Value)} (h : xs.Perm (keyVs l)) : ∃ ns : List Int, xs = ns.map (fun n => [Value.int .i64 n]) ∧ ns.Perm (l.map (·.1)) := by
 refine ⟨xs.map fun v => intOf (v.getD 0 undef),?_,?_⟩
 ·rw [List.map_map]
  have : ∀ x ∈ xs, x = ((fun n => [Value.int .i64 n]) ∘ fun v => intOf (v.getD 0 undef)) x := by
   intro x hx
   obtain ⟨e,_,rfl⟩ := List.mem_map.1 (h.mem_iff.1 hx)
   rfl
  exact (List.map_congr_left fun x hx => (this x hx).symm).trans (List.map_id' xs) |>.symm
 ·have := h.map fun v => intOf (v.getD 0 undef)
  have e : (keyVs l).map (fun v => intOf (v.getD 0 undef)) = l.map (·.1) := by
   unfold keyVs
   rw [List.map_map]; rfl
  rw [e] at this
  exact this
set_option maxHeartbeats 1000000 in
theorem fn161 (h3 : Codes3 E) {f : Value} {l : List (Int × Bool)} (hf : isFn f) (hI : Iter E f H (fun xs => xs.Perm (keyVs l))) (hn : l.length ≤ 1000000) :
  Fn E.P (E.fn 161) [.slice none 0 0,f] H (fun u H' => ∃ ns ob,ns.Perm (l.map (·.1)) ∧ OwnR H' 1 u ns.length (rInt ns) ob ∧ H.le H' ∧ ∀ b,ob = some b → H b = none) := by
 refine Fn.of_vks h3.c161 (by simp [cf161]) ?_
 simp only [cf161,cf161_0,cf161_1,cf161_2,cf161_3,cf161_4]
 simp only [go_sem,Nat.reduceEqDiff,Nat.reduceBEq,reduceCtorEq]
 intro b2 hb2
 have hperm_len : ∀ {xs : List (List Value)},xs.Perm (keyVs l) → xs.length = l.length := fun h => by rw [h.length_eq]; simp [keyVs]
 refine vks_rangeF H (fun xs => xs.Perm (keyVs l)) (fun pre H' => H.le H' ∧ ∃ u ob,H' b2 = some (.row [u] 1 true) ∧ OwnR H' 1 u pre.length (fun i => pre.getD i []) ob ∧ (∀ b,ob = some b → H b = none ∧ b ≠ b2) ∧ ∀ i,i < pre.length → (pre.getD i []).length = 1) ?_ ?_ ?_ ?_ ?_ ?_ ?_ ?_
 ·simp only [go_sem,Nat.reduceEqDiff]
 ·simp only [go_sem,Nat.reduceEqDiff]; exact hf
 ·simp only [go_sem,Nat.reduceEqDiff]; exact hI
 ·intro xs hxs x hx
  obtain ⟨e,_,rfl⟩ := List.mem_map.1 (hxs.mem_iff.1 hx)
  rfl
 ·exact ⟨le_put hb2 _,_,none,Hp.put_same ..,⟨rfl,rfl⟩,(fun b hb => by cases hb),(fun i hi => by cases hi)⟩
 ·intro pre H' h
  exact h.1
 ·rintro pre x H' ⟨suf,hS⟩ ⟨hle,u,ob,h2,hown,hob,hlen⟩
  have hxm : x ∈ keyVs l := hS.mem_iff.1 (List.mem_append_right _ List.mem_cons_self)
  obtain ⟨e,_,rfl⟩ := List.mem_map.1 hxm
  have hpl := hperm_len hS
  rw [List.length_append,List.length_cons] at hpl
  obtain ⟨ua,uc,hua⟩ := hown.sl
  subst hua
  simp only [h2,go_sem,Nat.reduceEqDiff,Nat.reduceBEq]
  intro bs hbs
  have hbs2 : b2 ≠ bs := by rintro rfl; rw [h2] at hbs; cases hbs
  refine vks_pushR (n := pre.length) (row := fun i => pre.getD i []) (row' := fun i => (pre ++ [[Value.int .i64 e.1]]).getD i []) (cells := [.int .i64 e.1]) ?_ ?_ ?_ ?_ (Hp.put_same ..) rfl rfl (hown.put hbs) hlen ?_ ?_ (by omega) (by omega) ?_
  ·simp only [go_sem,Nat.reduceEqDiff]
  ·simp only [go_sem,Nat.reduceEqDiff]
  ·simp only [go_sem,Nat.reduceEqDiff]
  ·simp only [go_sem,Nat.reduceEqDiff]
  ·intro i hi
   simp [List.getElem?_append_left hi]
  ·simp
  intro v' H3 b' hO3 hkeep hb'
  obtain ⟨va,vc,hv'⟩ := hO3.sl
  subst hv'
  have hob1 : ∀ b,ob = some b → H b = none := fun b hb => (hob b hb).1
  have h23 := hkeep b2 _ (by rw [Hp.put_ne _ _ hbs2]; exact h2) (fun e => (hob b2 e.symm).2 rfl)
  have hle3 := own_le' hle hbs hob1 hkeep
  have hnew := own_new' hle hbs hob1 hb'
  have hb2' : b' ≠ b2 := by
   rintro rfl
   rcases hb' with hx | hx
   ·rw [Hp.put_ne _ _ hbs2,h2] at hx; cases hx
   ·exact (hob b' hx.symm).2 rfl
  simp only [h23,go_sem,Nat.reduceEqDiff,Nat.reduceBEq]
  refine ⟨le_put_of_le hle3 hb2 _,_,some b',Hp.put_same ..,?_,?_,?_⟩
  ·rw [List.length_append]
   exact hO3.keep fun b hb => by cases hb; exact Hp.put_ne _ _ hb2'
  ·intro b hb
   cases hb
   exact ⟨hnew,hb2'⟩
  ·rw [List.length_append]
   intro i hi
   by_cases e2 : i < pre.length
   ·have : (pre ++ [[Value.int .i64 e.1]]).getD i [] = pre.getD i [] := by simp [List.getElem?_append_left e2]
    rw [this]; exact hlen i e2
   ·have : i = pre.length := by simp at hi; omega
    subst this
    simp
 ·rintro xs H' hxs ⟨hle,u,ob,h2,hown,hob,hlen⟩
  obtain ⟨ns,hns,hp⟩ := perm_ints hxs
  simp only [h2,go_sem,Nat.reduceEqDiff,Nat.reduceBEq]
  refine ⟨ns,ob,hp,?_,hle,fun b hb => (hob b hb).1⟩
  have hl : xs.length = ns.length := by rw [hns]; simp
  rw [← hl]
  refine hown.row_congr fun i hi => ?_
  subst hns
  have hi' : i < ns.length := by omega
  simp [rInt,hi']
theorem fn159 (h3 : Codes3 E) {f : Value} {l : List (Int × Bool)} (hf : isFn f) (_h1 : one1 f = true) (hI : Iter E f H (fun xs => xs.Perm (keyVs l))) (hn : l.length ≤ 1000000) :
  Fn E.P (E.fn 159) [f] H (fun u H' => ∃ ns ob,ns.Perm (l.map (·.1)) ∧ OwnR H' 1 u ns.length (rInt ns) ob ∧ H.le H' ∧ ∀ b,ob = some b → H b = none) := by
 refine Fn.of_vks h3.c159 (by simp [cf159]) ?_
 simp only [cf159,cf159_0,cf159_1]
 simp only [go_sem,Nat.reduceBEq,reduceCtorEq]
 refine vks_call (by simp only [go_sem,reduceCtorEq]) (fn161 h3 hf hI hn) ?_
 rintro u H' ⟨ns,ob,hp,hown,hle,hnew⟩
 simp only [go_sem,Nat.reduceEqDiff,Nat.reduceBEq,reduceCtorEq]
 exact ⟨ns,ob,hp,hown,hle,hnew⟩
theorem fn157 (hE : Codes E) (h2 : Codes2 E) (h3 : Codes3 E) (L4 : Lib4 E) {f : Value} {l : List (Int × Bool)} (hf : isFn f) (h1 : one1 f = true) (hI : Iter E f H (fun xs => xs.Perm (keyVs l))) (hn : l.length ≤ 12) (h0 : 0 < l.length) :
  Fn E.P (E.fn 157) [f] H (fun u H' => ∃ ns,ns.Perm (l.map (·.1)) ∧ IntsAt H' u (sortN ltInt ns.length ns) ∧ H.le H') := by
 refine Fn.of_vks h3.c157 (by simp [cf157]) ?_
 simp only [cf157,cf157_0,cf157_1,cf157_2,cf157_3]
 simp only [go_sem,Nat.reduceBEq,reduceCtorEq]
 refine vks_call (by simp only [go_sem,reduceCtorEq]) (fn159 h3 hf h1 hI (by omega)) ?_
 rintro u H1 ⟨ns,ob,hp,hown,hle,hnew⟩
 have hlen : ns.length = l.length := by rw [hp.length_eq]; simp
 cases ob with
 | none => have := hown.2; omega
 | some b =>
  obtain ⟨cap,rfl,hb⟩ := hown
  simp only [go_sem,Nat.reduceEqDiff,Nat.reduceBEq,reduceCtorEq]
  refine vks_call (by simp only [go_sem,Nat.reduceEqDiff]) (fn160s hE h2 h3 L4 ns (by omega) hb) ?_
  rintro w H2 rfl
  simp only [go_sem,Nat.reduceEqDiff,Nat.reduceBEq]
  refine ⟨ns,hp,?_,le_put_of_le hle (hnew b rfl) _⟩
  have hsl : (sortN ltInt ns.length ns).length = ns.length := sortN_len _ _ _
  unfold IntsAt
  rw [hsl]
  exact SlAt.ofRow (fun _ _ => rfl) (Hp.put_same ..)
end Go.SL
/- Contracts: the moments of a history. -/
namespace Go.SL
open Go
variable {E : Env} {H : Hp}
def add1 (e t : Int) (M : List (Int × Bool)) : List (Int × Bool) := if decide (t ≥ 0) && decide (t ≤ e) then mput t true M else M
def addN (e : Int) (ts : List Int) (M : List (Int × Bool)) : Nat → List (Int × Bool)
 | 0 => M
 | k + 1 => add1 e (ts.getD k 0) (addN e ts M k)
def addA (e : Int) (ts : List Int) (M : List (Int × Bool)) : List (Int × Bool) := addN e ts M ts.length
def cells9 (vh vc vd vi : Value) (h : HistD) : List Value := [vh,vc,S h.aname,.int .i64 h.atype,.int .i64 h.alife,vd,vi,.int .i64 h.drift,.int .i64 h.end_]
set_option maxHeartbeats 1000000 in
theorem fn155 (h3 : Codes3 E) {b1 b6 m c1 c6 : Nat} {w1 w6 : Bool} {vh vc vd vi v : Value} {h : HistD} {ts : List Int} {M : List (Int × Bool)} (hb1 : H b1 = some (.row (cells9 vh vc vd vi h) c1 w1)) (hb6 : H b6 = some (.row [.map (some m)] c6 w6)) (hM : MapI H m M)
  (hts : IntsAt H v ts) (hn : ts.length ≤ 1000000) : Fn E.P (E.fn 155) [v,.pointer (some ⟨b1,0,none⟩),.pointer (some ⟨b6,0,none⟩)] H (fun _ H' => H' = H.put m (.obj (.map (mapEs (addA h.end_ ts M)) (addA h.end_ ts M).length))) := by
 have hMm : H m = some (.obj (.map (mapEs M) M.length)) := hM
 have n1 : b1 ≠ m := by rintro rfl; rw [hMm] at hb1; cases hb1
 have n6 : b6 ≠ m := by rintro rfl; rw [hMm] at hb6; cases hb6
 obtain ⟨a,cap,rfl,hsp,hr⟩ := hts
 unfold cells9 at hb1
 refine Fn.of_vks h3.c155 (by simp [cf155]) ?_
 simp only [cf155,cf155_0,cf155_1,cf155_2,cf155_3,cf155_4,cf155_5]
 simp only [go_sem,Nat.reduceEqDiff,Nat.reduceBEq,Nat.reduceAdd,reduceCtorEq]
 refine vks_loopP ts.length 0 (fun k fr' H' => fr' = [(1, ⟨true, .val (.pointer (some ⟨b1, 0, none⟩))⟩), (2, ⟨true, .val (.pointer (some ⟨b6, 0, none⟩))⟩), (6, ⟨true, .val (.slice a ts.length cap)⟩), (7, ⟨true, .val (.int .i64 ts.length)⟩), (8, ⟨true, .val (.int .i64 k)⟩)] ∧
  H' = H.put m (.obj (.map (mapEs (addN h.end_ ts M k)) (addN h.end_ ts M k).length))) (Nat.zero_le _) ⟨rfl,(put_self hMm).symm⟩ ?_
 rintro k fr' H' hk ⟨rfl,hH'⟩
 have e1 : H' b1 = some (.row [vh,vc,S h.aname,.int .i64 h.atype,.int .i64 h.alife,vd,vi,.int .i64 h.drift,.int .i64 h.end_] c1 w1) := by rw [hH',Hp.put_ne _ _ n1]; exact hb1
 have e6 : H' b6 = some (.row [.map (some m)] c6 w6) := by rw [hH',Hp.put_ne _ _ n6]; exact hb6
 have em : MapI H' m (addN h.end_ ts M k) := by unfold MapI; rw [hH',Hp.put_same]
 by_cases hlt : k < ts.length
 ·have hd : decide ((k : Int) < (ts.length : Int)) = true := by simpa using hlt
  obtain ⟨b,o,vs,c,wr,ha,hb,hi⟩ := hr (by omega)
  subst ha
  have nb : b ≠ m := by rintro rfl; rw [hMm] at hb; cases hb
  have hb' : H' b = some (.row vs c wr) := by rw [hH',Hp.put_ne _ _ nb]; exact hb
  have hi1 := (hi k hlt).1
  have hi2 := getD_of_take (hi k hlt).2 (j := 0) (by omega)
  simp only [rInt,List.getD_cons_zero,Nat.add_zero,Nat.mul_one] at hi2
  have hsucc : addN h.end_ ts M (k + 1) = add1 h.end_ (ts.getD k 0) (addN h.end_ ts M k) := rfl
  obtain ⟨t,ht⟩ : ∃ t,t = ts.getD k 0 := ⟨_,rfl⟩
  rw [← ht] at hi2 hsucc
  have hks : IntKind.i64.wrap ((k : Int) + 1) = ((k + 1 : Nat) : Int) := wrapS (by omega)
  simp only [hd,hb',hi2,e1,Nat.mul_one,go_sem,Nat.reduceEqDiff,Nat.reduceBEq,Nat.reduceAdd,binO]
  rw [Nat.mul_one] at hi1
  refine ⟨⟨by omega,by omega⟩,by omega,?_⟩
  unfold add1 at hsucc
  cases hq : (decide (t ≥ 0) && decide (t ≤ h.end_))
  ·rw [hq,if_neg (by simp)] at hsucc
   refine ⟨fun h => ⟨h,h⟩,fun h => ?_,fun _ => ?_⟩
   ·cases h
   ·exact ⟨hlt,hks,by rw [hsucc]; exact hH'⟩
  ·rw [hq,if_pos rfl] at hsucc
   refine ⟨fun h => ⟨h,h⟩,fun _ => ?_,fun h => ?_⟩
   ·simp only [e6,go_sem]
    refine vks_updI t true ?_ ?_ ?_ ?_ ?_ ?_ em ?_
    ·simp only [go_sem,Nat.reduceEqDiff]
    ·simp only [go_sem,Nat.reduceEqDiff]
    ·simp only [go_sem]
    ·simp only [go_sem,Nat.reduceEqDiff]
    ·simp only [go_sem,Nat.reduceEqDiff]
    ·simp only [go_sem]
    simp only [go_sem,Nat.reduceEqDiff,Nat.reduceBEq,binO]
    exact ⟨hlt,hks,by rw [hsucc,hH',put_put]⟩
   ·cases h
 ·have hd : decide ((k : Int) < (ts.length : Int)) = false := by simpa using hlt
  have : k = ts.length := by omega
  subst this
  simp only [hd,go_sem,Nat.reduceEqDiff,Nat.reduceBEq,binO]
  exact hH'
theorem intsAt_lit {H : Hp} {bs c : Nat} {ts : List Int} (hb : H bs = some (.row (ts.map fun n => Value.int .i64 n) c true)) : IntsAt H (.slice (some ⟨bs, 0, none⟩) ts.length ts.length) ts := by
 refine SlAt.lit hb fun i hi => ⟨by simp; omega,?_⟩
 rw [Nat.mul_one,List.drop_eq_getElem_cons (by simpa using hi)]
 simp [rInt,hi]
theorem addV (h3 : Codes3 E) {K H' : Hp} {b1 b6 m c1 c6 bs : Nat} {w1 w6 : Bool} {vh vc vd vi : Value} {h : HistD} {M : List (Int × Bool)} (k1 : K b1 = some (.row (cells9 vh vc vd vi h) c1 w1)) (k6 : K b6 = some (.row [.map (some m)] c6 w6)) (km : K m = none)
  (hle : K.le H') (hM : MapI H' m M) (hbs : H' bs = none) (ts : List Int) (hn : ts.length ≤ 1000000) :
  FnV E (.func (.func (E.fn 155)) #[] #[.pointer (some ⟨b1,0,none⟩),.pointer (some ⟨b6,0,none⟩)]) [.slice (some ⟨bs,0,none⟩) ts.length ts.length] (H'.put bs (.row (ts.map fun n => Value.int .i64 n) ts.length true)) (fun _ H'' => K.le H'' ∧ MapI H'' m (addA h.end_ ts M)) := by
 have hMm : H' m = some (.obj (.map (mapEs M) M.length)) := hM
 have nb : m ≠ bs := by rintro rfl; rw [hMm] at hbs; cases hbs
 have hle1 : K.le (H'.put bs (.row (ts.map fun n => Value.int .i64 n) ts.length true)) := hle.trans (le_put hbs _)
 have hM1 : MapI (H'.put bs (.row (ts.map fun n => Value.int .i64 n) ts.length true)) m M := by unfold MapI; rw [Hp.put_ne _ _ nb]; exact hM
 refine FnV_of_Fn h3.e155 ?_
 refine Fn.mono (fn155 h3 (hle1 _ _ k1) (hle1 _ _ k6) hM1 (intsAt_lit (Hp.put_same ..)) hn) ?_
 rintro u H'' rfl
 exact ⟨le_put_of_le hle1 km _,Hp.put_same ..⟩
def momC (e : Int) (cs : List CopyD) (M : List (Int × Bool)) : Nat → List (Int × Bool)
 | 0 => M
 | k + 1 => addA e [(cs.getD k default).from_,(cs.getD k default).till] (momC e cs M k)
def momS (e : Int) (l : List SpanD) (M : List (Int × Bool)) : Nat → List (Int × Bool)
 | 0 => M
 | k + 1 => addA e [(l.getD k default).from_,(l.getD k default).till] (momS e l M k)
def sigTimes (d : Int) (g : SigD) : List Int := [IntKind.i64.wrap (g.from_ + d),IntKind.i64.wrap (IntKind.i64.wrap (g.till - d) + 1),IntKind.i64.wrap (IntKind.i64.wrap (g.till + d) + 1)]
def momG (e d : Int) (s : SignedD) (M : List (Int × Bool)) : List (Int × Bool) := if decide ((s.sigs.length : Int) > 0) then addA e (sigTimes d (s.sigs.getD 0 default)) M else M
def elUsed (d : Int) (x : Bs × (SignedD × List SpanD)) : List SpanD := usedL d x.2.1 (normalL x.2.2)
def momE (h : HistD) (x : Bs × (SignedD × List SpanD)) (M : List (Int × Bool)) : List (Int × Bool) :=
 momG h.end_ h.drift x.2.1 (momS h.end_ (elUsed h.drift x) (momS h.end_ (normalL x.2.2) M (normalL x.2.2).length) (elUsed h.drift x).length)
def momA (h : HistD) (A : Groups) (M : List (Int × Bool)) : Nat → List (Int × Bool)
 | 0 => M
 | k + 1 => momE h (A.getD k default) (momA h A M k)
def moments (h : HistD) : List (Int × Bool) := momA h (allG h) (momC h.end_ h.copies [] h.copies.length) (allG h).length
set_option maxRecDepth 8000 in
set_option maxHeartbeats 8000000 in
theorem fn158 (hE : Codes E) (h2 : Codes2 E) (h3 : Codes3 E) (L : Lib3 E) (L4 : Lib4 E) (hB : Base E H) (hB2 : Base2 E H) {v : Value} {h : HistD} (hh : HistAt H v h) (hn : h.copies.length ≤ 12)
  (hsz : histValid h = true → PubSz h.copies) (hzo : histValid h = true → ZonesOk h) (hml : histValid h = true → (moments h).length ≤ 12 ∧ 0 < (moments h).length) :
  Fn E.P (E.fn 158) [v] H (fun u H' => H.le H' ∧ (histValid h = false → u = .tuple #[.slice none 0 0, .int .i64 1]) ∧
   (histValid h = true → ∃ w ns,u = .tuple #[w,.int .i64 0] ∧ ns.Perm ((moments h).map (·.1)) ∧ IntsAt H' w (sortN ltInt ns.length ns))) := by
 have hh0 := hh
 obtain ⟨vh,vz,vd,vi,rfl,g1,g2,g3,g5⟩ := hh
 have o1 := SlAt.one g1
 have o2 := g2.one
 have o3 := SlAt.one g3
 have o5 := SlAt.one g5
 obtain ⟨z,⟨a,cap,rfl,hs,hr⟩,hdeep⟩ := g2
 refine Fn.of_vks h3.c158 (by simp [cf158]) ?_
 simp only [cf158,cf158_0,cf158_1,cf158_2,cf158_3,cf158_4,cf158_5,cf158_7,cf158_8,cf158_9,cf158_10,cf158_11,cf158_12,cf158_13,cf158_15,cf158_18,cf158_20,cf158_23,cf158_27]
 simp only [go_sem,Nat.reduceEqDiff,Nat.reduceBEq,Nat.reduceAdd,reduceCtorEq]
 intro b1 hb1
 obtain ⟨HA,hHA⟩ : ∃ y,y = H.put b1 (.row [vh,.slice a h.copies.length cap,S h.aname,.int .i64 h.atype,.int .i64 h.alife,vd,vi,.int .i64 h.drift,.int .i64 h.end_] 9 true) := ⟨_,rfl⟩
 have hA1 : HA b1 = some (.row (cells9 vh (.slice a h.copies.length cap) vd vi h) 9 true) := by rw [hHA,Hp.put_same]; rfl
 have hleA : H.le HA := by rw [hHA]; exact le_put hb1 _
 have hA1' := hA1
 unfold cells9 at hA1'
 have hall := fn139 hE h2 h3 L (hB.mono hleA) (hB2.mono hleA) (hh0.mono hleA) hn hsz hzo
 rw [← hHA]
 simp only [hA1',go_sem,Nat.reduceAdd]
 refine vks_call (by simp only [go_sem,Nat.reduceEqDiff]) hall ?_
 rintro u H2 ⟨hle2,hbad,hpost⟩
 cases hv : histValid h
 ·rw [hbad hv]
  simp only [go_sem,Nat.reduceLT,Nat.reduceEqDiff,Nat.reduceBEq,Nat.reduceAdd,binO,bne,Int.reduceBEq]
  exact hleA.trans hle2
 obtain ⟨vo,dv,gv,fv,sv,hw,hsl2,hdat⟩ := hpost hv
 subst hw
 have hzo' := hzo hv
 have hel := allN'_el hzo' (zonesL h).length (Nat.le_refl _)
 have hAl := allN'_len hzo' (zonesL h).length (Nat.le_refl _)
 have hmm := hml hv
 unfold moments at hmm ⊢
 obtain ⟨A,hAA⟩ : ∃ A,A = allG h := ⟨_,rfl⟩
 change ∀ e ∈ allG h,_ at hel
 change (allG h).length ≤ _ at hAl
 rw [← hAA] at hsl2 hdat hel hAl hmm ⊢
 obtain ⟨oa,oc,hvo⟩ := hsl2.sl
 subst hvo
 simp only [Hp.put_same,go_sem,Nat.reduceLT,Nat.reduceEqDiff,Nat.reduceBEq,Nat.reduceAdd,binO,bne]
 intro m hm b6 hb6
 obtain ⟨HB,hHB⟩ : ∃ y,y = (H2.put m (.obj (.map #[] 0))).put b6 (.row [.map (some m)] 1 true) := ⟨_,rfl⟩
 rw [← hHB]
 have n6m : b6 ≠ m := by rintro rfl; rw [Hp.put_same] at hb6; cases hb6
 have hB6 : HB b6 = some (.row [.map (some m)] 1 true) := by rw [hHB,Hp.put_same]
 have hBm : MapI HB m [] := by unfold MapI; rw [hHB,Hp.put_ne _ _ (Ne.symm n6m),Hp.put_same]; rfl
 have hle2B : H2.le HB := by rw [hHB]; exact (le_put hm _).trans (le_put hb6 _)
 obtain ⟨K,hK⟩ : ∃ y,y = HB.del m := ⟨_,rfl⟩
 have km : K m = none := by rw [hK,Hp.del_same]
 have kB : K.le HB := by rw [hK]; exact del_le _ _
 have k2 : H2.le K := by rw [hK]; exact le_del hm hle2B
 have k6 : K b6 = some (.row [.map (some m)] 1 true) := by rw [hK,Hp.del_ne _ n6m]; exact hB6
 have k1 := k2 _ _ (hle2 _ _ hA1)
 have kH := (hleA.trans hle2).trans k2
 have kB1 := kB _ _ k1
 unfold cells9 at kB1
 simp only [cf158_6,kB1,go_sem,Nat.reduceLeDiff,Nat.reduceEqDiff,Nat.reduceBEq,Nat.reduceAdd]
 refine vks_loopP h.copies.length 0 (fun k fr' H' => fr' = [(1, ⟨true, .val (.pointer (some ⟨b1, 0, none⟩))⟩), (4, ⟨true, .val (.slice oa A.length oc)⟩), (6, ⟨true, .val (.pointer (some ⟨b6, 0, none⟩))⟩), (7, ⟨true, .val (.func (.func (E.fn 155)) #[] #[.pointer (some ⟨b1, 0, none⟩), .pointer (some ⟨b6, 0, none⟩)])⟩), (28, ⟨true, .val (.slice a h.copies.length cap)⟩), (29, ⟨true, .val (.int .i64 h.copies.length)⟩), (30, ⟨true, .val (.int .i64 k)⟩)] ∧
  K.le H' ∧ MapI H' m (momC h.end_ h.copies [] k)) (Nat.zero_le _) ⟨rfl,kB,hBm⟩ ?_
 rintro k fr' H' hk ⟨rfl,hle,hM⟩
 by_cases hlt : k < h.copies.length
 ·have hd : decide ((k : Int) < (h.copies.length : Int)) = true := by simpa using hlt
  obtain ⟨b,o,vs,c,wr,ha,hb,hi⟩ := hr (by omega)
  subst ha
  have hb' := hle _ _ (kH _ _ hb)
  have hi1 := (hi k hlt).1
  have hi2 := (hi k hlt).2
  have hz1 : one1 (z k) = true := by obtain ⟨d,g,h,_⟩ := hdeep k hlt; exact SlAt.one h
  have hsucc : momC h.end_ h.copies [] (k + 1) = addA h.end_ [(h.copies.getD k default).from_,(h.copies.getD k default).till] (momC h.end_ h.copies [] k) := rfl
  have hks : IntKind.i64.wrap ((k : Int) + 1) = ((k + 1 : Nat) : Int) := wrapS (by omega)
  simp only [hd,hb',hi2,rCopy,hz1,go_sem,Nat.reduceLeDiff,Nat.reduceEqDiff,Nat.reduceBEq,Nat.reduceAdd,binO]
  refine ⟨⟨by omega,by omega⟩,hi1,?_⟩
  intro bs hbs
  have hadd := addV h3 k1 k6 km hle hM hbs [(h.copies.getD k default).from_,(h.copies.getD k default).till] (by simp)
  refine vks_callv (by simp only [go_sem,Nat.reduceEqDiff]) (by simp only [go_sem,Nat.reduceEqDiff]) hadd ?_
  rintro w H3 ⟨hle3,hM3⟩
  simp only [go_sem,Nat.reduceEqDiff,Nat.reduceBEq,binO]
  exact ⟨hlt,hks,hle3,by rw [hsucc]; exact hM3⟩
 have hd : decide ((k : Int) < (h.copies.length : Int)) = false := by simpa using hlt
 have : k = h.copies.length := by omega
 subst this
 simp only [hd,go_sem,Nat.reduceLeDiff,Nat.reduceEqDiff,Nat.reduceBEq,Nat.reduceAdd,binO]
 obtain ⟨M0,hM0⟩ : ∃ y,y = momC h.end_ h.copies [] h.copies.length := ⟨_,rfl⟩
 rw [← hM0] at hM hmm ⊢
 obtain ⟨ab,acp,hsv2,_,hrow⟩ := hsl2
 cases hsv2
 refine vks_loopP A.length 0 (fun k fr' H' => fr' = [(1,⟨true,.val (.pointer (some ⟨b1,0,none⟩))⟩),(6,⟨true,.val (.pointer (some ⟨b6,0,none⟩))⟩),(7,⟨true,.val (.func (.func (E.fn 155)) #[] #[.pointer (some ⟨b1,0,none⟩),.pointer (some ⟨b6,0,none⟩)])⟩),(42,⟨true,.val (.slice oa A.length oc)⟩),(43,⟨true,.val (.int .i64 A.length)⟩),(44,⟨true,.val (.int .i64 k)⟩)] ∧ K.le H' ∧ MapI H' m (momA h A M0 k)) (Nat.zero_le _) ⟨rfl,hle,hM⟩ ?_
 rintro k fr' H' hk ⟨rfl,hle,hM⟩
 by_cases hlt : k < A.length
 ·have hd : decide ((k : Int) < (A.length : Int)) = true := by simpa using hlt
  obtain ⟨b,o,vs,c,wr,ha,hb,hi⟩ := hrow (by omega)
  subst ha
  have hb' := hle _ _ (k2 _ _ hb)
  have hi1 := (hi k hlt).1
  have hi2 := (hi k hlt).2
  have hdk := hdat k hlt
  have hek := (hel _ (getD_mem hlt)).num
  have hsucc : momA h A M0 (k + 1) = momE h (A.getD k default) (momA h A M0 k) := rfl
  have hks : IntKind.i64.wrap ((k : Int) + 1) = ((k + 1 : Nat) : Int) := wrapS (by have := hzo'.num; omega)
  obtain ⟨x,hx⟩ : ∃ x,A.getD k default = x := ⟨_,rfl⟩
  rw [hx] at hdk hsucc hek
  obtain ⟨MK,hMK⟩ : ∃ y,y = momA h A M0 k := ⟨_,rfl⟩
  rw [← hMK] at hM hsucc
  obtain ⟨hdd,hgg,hff,huu⟩ := hdk
  change SpansAt H2 (sv k) (elUsed h.drift x) at huu
  have p1 := SlAt.one hdd
  have p2 := SlAt.one hgg
  have hnl := normalL_len x.2.2
  have hul : (elUsed h.drift x).length ≤ (normalL x.2.2).length := by
   have := normalL_len ((normalL x.2.2).map (growS h.drift x.2.1))
   rw [List.length_map] at this
   exact this
  obtain ⟨fa,fc,hfv,_,hfr⟩ := hff
  obtain ⟨ua,uc,huv,_,hur⟩ := huu
  simp only [heldA,rHeld,hx,hfv,huv] at hi2
  simp only [hd,hb',hi2,p1,p2,go_sem,Nat.reduceEqDiff,Nat.reduceBEq,Nat.reduceAdd,binO]
  refine ⟨⟨by omega,by omega⟩,hi1,?_⟩
  simp only [cf158_14,go_sem,Nat.reduceLeDiff,Nat.reduceEqDiff,Nat.reduceBEq,Nat.reduceAdd]
  refine vks_loopP (normalL x.2.2).length 0 (fun j fr' H' => fr' = [(1, ⟨true, .val (.pointer (some ⟨b1, 0, none⟩))⟩), (6, ⟨true, .val (.pointer (some ⟨b6, 0, none⟩))⟩), (7, ⟨true, .val (.func (.func (E.fn 155)) #[] #[.pointer (some ⟨b1, 0, none⟩), .pointer (some ⟨b6, 0, none⟩)])⟩), (11, ⟨true, .box [S x.1, S x.2.1.name, .int .i64 x.2.1.type, .int .i64 x.2.1.life, dv k, gv k, .slice fa (normalL x.2.2).length fc, .slice ua (elUsed h.drift x).length uc]⟩), (42, ⟨true, .val (.slice (some ⟨b, o, none⟩) A.length oc)⟩), (43, ⟨true, .val (.int .i64 A.length)⟩), (44, ⟨true, .val (.int .i64 k)⟩), (49, ⟨true, .val (.slice fa (normalL x.2.2).length fc)⟩), (50, ⟨true, .val (.int .i64 (normalL x.2.2).length)⟩), (51, ⟨true, .val (.int .i64 j)⟩)] ∧
   K.le H' ∧ MapI H' m (momS h.end_ (normalL x.2.2) MK j)) (Nat.zero_le _) ⟨rfl,hle,hM⟩ ?_
  rintro j fr' HJ hj ⟨rfl,hleJ,hMJ⟩
  by_cases hltj : j < (normalL x.2.2).length
  ·have hdj : decide ((j : Int) < ((normalL x.2.2).length : Int)) = true := by simpa using hltj
   obtain ⟨b2,o2,vs2,c2,wr2,ha2,hb2,hiw⟩ := hfr (by omega)
   subst ha2
   have hbj := hleJ _ _ (k2 _ _ hb2)
   have hj1 := (hiw j hltj).1
   have hj2 := (hiw j hltj).2
   simp only [rSpan] at hj2
   have hsj : momS h.end_ (normalL x.2.2) MK (j + 1) = addA h.end_ [((normalL x.2.2).getD j default).from_,((normalL x.2.2).getD j default).till] (momS h.end_ (normalL x.2.2) MK j) := rfl
   have hjs : IntKind.i64.wrap ((j : Int) + 1) = ((j + 1 : Nat) : Int) := wrapS (by omega)
   simp only [cf158_16,cf158_17,hdj,hbj,hj2,go_sem,Nat.reduceLeDiff,Nat.reduceEqDiff,Nat.reduceBEq,Nat.reduceAdd,binO]
   refine ⟨⟨by omega,by omega⟩,hj1,?_⟩
   intro bs hbs
   have hadd := addV h3 k1 k6 km hleJ hMJ hbs [((normalL x.2.2).getD j default).from_,((normalL x.2.2).getD j default).till] (by simp)
   refine vks_callv (by simp only [go_sem,Nat.reduceEqDiff]) (by simp only [go_sem,Nat.reduceEqDiff]) hadd ?_
   rintro w H3 ⟨hle3,hM3⟩
   simp only [go_sem,Nat.reduceEqDiff,Nat.reduceBEq,binO]
   exact ⟨hltj,hjs,hle3,by rw [hsj]; exact hM3⟩
  have hdj : decide ((j : Int) < ((normalL x.2.2).length : Int)) = false := by simpa using hltj
  have : j = (normalL x.2.2).length := by omega
  subst this
  simp only [hdj,go_sem,Nat.reduceEqDiff,Nat.reduceBEq,binO]
  obtain ⟨MF,hMF⟩ : ∃ y,y = momS h.end_ (normalL x.2.2) MK (normalL x.2.2).length := ⟨_,rfl⟩
  rw [← hMF] at hMJ
  have hleJ1 := hleJ
  have hMJ1 := hMJ
  simp only [cf158_19,go_sem,Nat.reduceEqDiff,Nat.reduceBEq,Nat.reduceAdd]
  refine vks_loopP (elUsed h.drift x).length 0 (fun j fr' H' => fr' = [(1, ⟨true, .val (.pointer (some ⟨b1, 0, none⟩))⟩), (6, ⟨true, .val (.pointer (some ⟨b6, 0, none⟩))⟩), (7, ⟨true, .val (.func (.func (E.fn 155)) #[] #[.pointer (some ⟨b1, 0, none⟩), .pointer (some ⟨b6, 0, none⟩)])⟩), (11, ⟨true, .box [S x.1, S x.2.1.name, .int .i64 x.2.1.type, .int .i64 x.2.1.life, dv k, gv k, .slice fa (normalL x.2.2).length fc, .slice ua (elUsed h.drift x).length uc]⟩), (42, ⟨true, .val (.slice (some ⟨b, o, none⟩) A.length oc)⟩), (43, ⟨true, .val (.int .i64 A.length)⟩), (44, ⟨true, .val (.int .i64 k)⟩), (64, ⟨true, .val (.slice ua (elUsed h.drift x).length uc)⟩), (65, ⟨true, .val (.int .i64 (elUsed h.drift x).length)⟩), (66, ⟨true, .val (.int .i64 j)⟩)] ∧
   K.le H' ∧ MapI H' m (momS h.end_ (elUsed h.drift x) MF j)) (Nat.zero_le _) ⟨rfl,hleJ1,hMJ1⟩ ?_
  rintro j fr' HJ hj ⟨rfl,hleJ,hMJ⟩
  by_cases hltj : j < (elUsed h.drift x).length
  ·have hdj : decide ((j : Int) < ((elUsed h.drift x).length : Int)) = true := by simpa using hltj
   obtain ⟨b2,o2,vs2,c2,wr2,ha2,hb2,hiw⟩ := hur (by omega)
   subst ha2
   have hbj := hleJ _ _ (k2 _ _ hb2)
   have hj1 := (hiw j hltj).1
   have hj2 := (hiw j hltj).2
   simp only [rSpan] at hj2
   have hsj : momS h.end_ (elUsed h.drift x) MF (j + 1) = addA h.end_ [((elUsed h.drift x).getD j default).from_,((elUsed h.drift x).getD j default).till] (momS h.end_ (elUsed h.drift x) MF j) := rfl
   have hjs : IntKind.i64.wrap ((j : Int) + 1) = ((j + 1 : Nat) : Int) := wrapS (by omega)
   simp only [cf158_21,cf158_22,hdj,hbj,hj2,go_sem,Nat.reduceLeDiff,Nat.reduceEqDiff,Nat.reduceBEq,Nat.reduceAdd,binO]
   refine ⟨⟨by omega,by omega⟩,hj1,?_⟩
   intro bs hbs
   have hadd := addV h3 k1 k6 km hleJ hMJ hbs [((elUsed h.drift x).getD j default).from_,((elUsed h.drift x).getD j default).till] (by simp)
   refine vks_callv (by simp only [go_sem,Nat.reduceEqDiff]) (by simp only [go_sem,Nat.reduceEqDiff]) hadd ?_
   rintro w H3 ⟨hle3,hM3⟩
   simp only [go_sem,Nat.reduceEqDiff,Nat.reduceBEq,binO]
   exact ⟨hltj,hjs,hle3,by rw [hsj]; exact hM3⟩
  have hdj : decide ((j : Int) < ((elUsed h.drift x).length : Int)) = false := by simpa using hltj
  have : j = (elUsed h.drift x).length := by omega
  subst this
  simp only [hdj,go_sem,Nat.reduceEqDiff,Nat.reduceBEq,binO]
  obtain ⟨MU,hMU⟩ : ∃ y,y = momS h.end_ (elUsed h.drift x) MF (elUsed h.drift x).length := ⟨_,rfl⟩
  rw [← hMU] at hMJ
  have hME : momE h x MK = momG h.end_ h.drift x.2.1 MU := by unfold momE; rw [← hMF,← hMU]
  rw [hME] at hsucc
  unfold momG at hsucc
  obtain ⟨sa,sc,hgv,_,hgr⟩ := hgg
  cases hsg : decide (((x.2.1.sigs.length : Nat) : Int) > 0)
  ·rw [hsg,if_neg (by simp)] at hsucc
   simp only [cf158_24,hgv,hsg,go_sem,Nat.reduceLeDiff,Nat.reduceEqDiff,Nat.reduceBEq,Nat.reduceAdd,binO]
   exact ⟨hlt,hks,hleJ,by rw [hsucc]; exact hMJ⟩
  ·rw [hsg,if_pos rfl] at hsucc
   have hpos : 0 < x.2.1.sigs.length := by rw [decide_eq_true_eq] at hsg; omega
   obtain ⟨b2,o2,vs2,c2,wr2,ha2,hb2,hi3⟩ := hgr hpos
   subst ha2
   have hbj := hleJ _ _ (k2 _ _ hb2)
   have hj1 := (hi3 0 hpos).1
   have hj2 := (hi3 0 hpos).2
   have hB1 := hleJ _ _ k1
   unfold cells9 at hB1
   obtain ⟨g,hgd⟩ : ∃ g,x.2.1.sigs.getD 0 default = g := ⟨_,rfl⟩
   simp only [rSig,hgd,Nat.zero_mul,Nat.add_zero] at hj2 hj1
   rw [hgd] at hsucc
   simp only [cf158_24,cf158_25,cf158_26,hgv,hsg,hbj,hj2,hB1,go_sem,Nat.reduceLeDiff,Nat.reduceEqDiff,Nat.reduceBEq,Nat.reduceAdd,Int.reduceToNat,Int.reduceLE,binO]
   refine ⟨by omega,by omega,?_⟩
   intro bs hbs
   have hadd := addV h3 k1 k6 km hleJ hMJ hbs (sigTimes h.drift g) (by simp [sigTimes])
   refine vks_callv (by simp only [go_sem,Nat.reduceEqDiff]) (by simp only [go_sem,Nat.reduceEqDiff]) hadd ?_
   rintro w H3 ⟨hle3,hM3⟩
   simp only [go_sem,Nat.reduceEqDiff,Nat.reduceBEq,binO]
   exact ⟨hlt,hks,hle3,by rw [hsucc]; exact hM3⟩
 have hd : decide ((k : Int) < (A.length : Int)) = false := by simpa using hlt
 have : k = A.length := by omega
 subst this
 have hB6' := hle _ _ k6
 simp only [hd,cf158_28,hB6',go_sem,Nat.reduceEqDiff,Nat.reduceBEq,Nat.reduceAdd,binO]
 refine vks_call (by simp only [go_sem,Nat.reduceEqDiff]) (fn156 h3 m) ?_
 rintro u H3 ⟨bk,hbk,rfl,hH3⟩
 have hMm : H' m = some (.obj (.map (mapEs (momA h A M0 A.length)) (momA h A M0 A.length).length)) := hM
 have nbk : m ≠ bk := by rintro rfl; rw [hMm] at hbk; cases hbk
 have hM3 : MapI H3 m (momA h A M0 A.length) := by unfold MapI; rw [hH3,Hp.put_ne _ _ nbk]; exact hMm
 have h3k : H3 bk = some (.row [.map (some m)] 1 true) := by rw [hH3,Hp.put_same]
 have hle3 : H'.le H3 := by rw [hH3]; exact le_put hbk _
 simp only [go_sem,Nat.reduceBEq]
 refine vks_call (by simp only [go_sem,Nat.reduceEqDiff]) (fn157 hE h2 h3 L4 (l := momA h A M0 A.length) trivial rfl (it172 h3 h3k hM3) hmm.1 hmm.2) ?_
 rintro w H4 ⟨ns,hp,hins,hle4⟩
 obtain ⟨wa,wc,hw⟩ := SlAt.sl hins
 simp only [hw,go_sem,Nat.reduceEqDiff,Nat.reduceBEq]
 rw [hw] at hins
 exact ⟨((kH.trans hle).trans hle3).trans hle4,_,ns,rfl,hp,hins⟩
end Go.SL
