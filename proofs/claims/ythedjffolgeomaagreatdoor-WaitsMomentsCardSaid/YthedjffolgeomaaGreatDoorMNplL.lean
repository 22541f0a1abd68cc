/- The verification condition with a stack of codes: first-order steps for simp. -/
import Derived.Test.YthedjffolgeomaaGreatDoorMNplI5
namespace Go.SL
open Go
inductive Item where
 | code (c:vQ)
 | ops (l:List zA) (live:List Nat)
 | opd (p l:List yS) (live:List Nat)
 | blk (id:Nat)
 | goal (G:Fr→Hp→Prop)
mutual
def zT (E : Env) : List Item → Fr → Hp → (X → Fr → Hp → Prop) → Prop
 | [],fr,H,Q=>Q .nrm fr H
 | .code c :: k, fr, H, Q => vc E c fr H fun e fr' H' => match e with
  | .nrm=>zT E k fr' H' Q
  | e=>uN E k e fr' H' Q
 | .ops l live :: k,fr,H,Q=>kE E l fr H fun fr' H'=>zT E k (fr'.keep live) H' Q
 | .opd p l live :: k,fr,H,Q=>evd E p l fr H fun fr' H'=>zT E k (fr'.keep live) H' Q
 | .blk _ :: k,fr,H,Q=>zT E k fr H Q
 | .goal G :: _,fr,H,_=>G fr H
def uN (E : Env) : List Item → X → Fr → Hp → (X → Fr → Hp → Prop) → Prop
 | [],e,fr,H,Q=>Q e fr H
 | .blk id :: k,e,fr,H,Q=>if e = .exit id then zT E k fr H Q else uN E k e fr H Q
 | .code _ :: k,e,fr,H,Q=>uN E k e fr H Q
 | .ops _ _ :: k,e,fr,H,Q=>uN E k e fr H Q
 | .opd _ _ _ :: k,e,fr,H,Q=>uN E k e fr H Q
 | .goal _ :: k,e,fr,H,Q=>uN E k e fr H Q
end
section
variable {E:Env} {fr:Fr} {H:Hp} {Q:X→Fr→Hp→Prop} {k:List Item}
theorem yMT {c : vQ} (h : zT E [.code c] fr H Q) : vc E c fr H Q := by
 simp only [zT] at h
 refine qN (fun e fr H h=>?_) h
 cases e<;>simpa [uN] using h
theorem yUL:zT E [] fr H Q=Q .nrm fr H:=by simp [zT]
theorem ySx:zT E (.code .skip :: k) fr H Q=zT E k fr H Q:=by simp [zT,vc]
theorem yTD {l:List zA} {live:List Nat}:zT E (.code (.reg l live) :: k) fr H Q=zT E (.ops l live :: k) fr H Q:=by simp [zT,vc]
theorem yRy {l:List yS} {live:List Nat}:zT E (.code (.regd l live) :: k) fr H Q=zT E (.opd [] l live :: k) (fr.start (wT l)) H Q:=by simp [zT,vc]
theorem ySC {l:List yS} {mid live:List Nat} {last:zA}:zT E (.code (.regl l mid last live) :: k) fr H Q=zT E (.opd [] l mid :: .ops [last] live :: k) (fr.start (wT l)) H Q:=by simp [zT,vc,kE]
theorem ySG {l:List ROp} {live:List Nat}:zT E (.code (.rega l live) :: k) fr H Q=zHB E l fr H (fun fr' H'=>zT E k (fr'.keep live) H' Q):=by simp [zT,vc]
theorem zCl {x:yS} {p l:List yS} {live:List Nat}:zT E (.opd p (x :: l) live :: k) fr H Q=wJ E x.o fr H (fun fr' H'=>pS E fr' H' x.ls p∧zT E (.opd (x :: p) l live :: k) fr' H' Q):=by simp [zT,evd]
theorem yGx {p:List yS} {live:List Nat}:zT E (.opd p [] live :: k) fr H Q=zT E k (fr.keep live) H Q:=by simp [zT,evd]
theorem yPz {p : List yS} : pS E fr H [] p := by
 induction p with
 | nil=>trivial
 | cons y p ih=>exact⟨by simp,ih⟩
theorem ySf {i : Nat} {d : Option Nat} {x : jW} {g : Option (Nat × Bool)} {p r : List yS} {live : List Nat} :
  zT E (.opd p (⟨i,⟨d,.sim x,g⟩,[]⟩ :: r) live :: k) fr H Q=(vG fr g∧(yM fr g=true→pN E fr H x)∧zT E (.opd (⟨i,⟨d,.sim x,g⟩,[]⟩ :: p) r live :: k) (setD fr d ⟨yM fr g,xI E fr H x⟩) H Q):=by
 simp [zT,evd,wJ,yPz]
theorem yUH {a b : vQ} : zT E (.code (.seq a b) :: k) fr H Q = zT E (.code a :: .code b :: k) fr H Q := by
 simp only [zT,vc]
 congr 1
 funext e fr' H'
 cases e<;>simp [uN]
theorem yJk {id : Nat} {c : vQ} : zT E (.code (.block id c) :: k) fr H Q = zT E (.code c :: .blk id :: k) fr H Q := by
 simp only [zT,vc]
 congr 1
 funext e fr' H'
 cases e<;>simp [uN]
theorem yQk {id:Nat}:zT E (.code (.exit id) :: k) fr H Q=uN E k (.exit id) fr H Q:=by simp [zT,vc]
theorem yUi:zT E (.code .ret :: k) fr H Q=uN E k .ret fr H Q:=by simp [zT,vc]
theorem yTG {id:Nat}:zT E (.blk id :: k) fr H Q=zT E k fr H Q:=by simp [zT]
theorem ySn {G:Fr→Hp→Prop}:zT E (.goal G :: k) fr H Q=G fr H:=by simp [zT]
theorem yGC {live:List Nat}:zT E (.ops [] live :: k) fr H Q=zT E k (fr.keep live) H Q:=by simp [zT,kE]
theorem yUN {e:X}:uN E [] e fr H Q=Q e fr H:=by simp [uN]
theorem yRP {e:X} {c:vQ}:uN E (.code c :: k) e fr H Q=uN E k e fr H Q:=by simp [uN]
theorem yTO {e:X} {l:List zA} {live:List Nat}:uN E (.ops l live :: k) e fr H Q=uN E k e fr H Q:=by simp [uN]
theorem yUT {e:X} {p l:List yS} {live:List Nat}:uN E (.opd p l live :: k) e fr H Q=uN E k e fr H Q:=by simp [uN]
theorem ySL {e:X} {G:Fr→Hp→Prop}:uN E (.goal G :: k) e fr H Q=uN E k e fr H Q:=by simp [uN]
theorem zNz {i j:Nat}:uN E (.blk i :: k) (.exit j) fr H Q=if j=i then zT E k fr H Q else uN E k (.exit j) fr H Q:=by simp [uN]
theorem zRU {i:Nat}:uN E (.blk i :: k) .ret fr H Q=uN E k .ret fr H Q:=by simp [uN]
theorem zRT {c : Arg} {x y : vQ} : zT E (.code (.cond c x y) :: k) fr H Q = (vok fr c ∧ (match vo E fr c with
  | .bool b=>(b=true→zT E (.code x :: k) fr H Q)∧(b=false→zT E (.code y :: k) fr H Q)
  | _=>False)):=by
 simp only [zT,vc]
 congr 1
theorem zIs {live : List Nat} {c : vQ} (I : Nat → Fr → Hp → Prop) (m0 : Nat) (h0 : I m0 (fr.keep live) H)
  (h:∀ m fr' H',I m fr' H'→zT E (.code c :: .goal (fun fr'' H''=>∃ m',m' < m∧I m' (fr''.keep live) H'') :: k) fr' H' Q) :
  zT E (.code (.loop live c) :: k) fr H Q:=by
 simp only [zT,vc]
 refine⟨I,⟨m0,h0⟩,fun m fr' H' hi=>?_⟩
 have:=h m fr' H' hi
 simp only [zT] at this
 refine qN (fun e fr H h=>?_) this
 cases e<;>simpa [uN] using h
theorem yTQ {d : Option Nat} {x : jW} {g : Option (Nat × Bool)} {r : List zA} {live : List Nat} :
  zT E (.ops (⟨d,.sim x,g⟩ :: r) live :: k) fr H Q=(vG fr g∧(yM fr g=true→pN E fr H x)∧zT E (.ops r live :: k) (setD fr d ⟨yM fr g,xI E fr H x⟩) H Q):=by simp [zT,kE,wJ]
theorem yRI {d : Option Nat} {x : jW} {r : List zA} {live : List Nat} :
  zT E (.ops (⟨d,.sim x,none⟩ :: r) live :: k) fr H Q=(pN E fr H x∧zT E (.ops r live :: k) (setD fr d ⟨true,xI E fr H x⟩) H Q):=by simp [zT,kE,wJ,vG,yM]
theorem zE {d : Option Nat} {f : Nat} {args : List Arg} {g : Option (Nat × Bool)} {r : List zA} {live : List Nat} (v : Value) (h0 : vG fr g)
  (h1:yM fr g=true→pB fr args∧yD E f (args.map (vo E fr)) H v) (h:zT E (.ops r live :: k) (setD fr d ⟨yM fr g,.val v⟩) H Q) :
  zT E (.ops (⟨d,.callp f args,g⟩ :: r) live :: k) fr H Q:=by
 simp only [zT,kE,wJ]
 refine⟨h0,v,h1,?_⟩
 simpa [zT] using h
theorem zP {d : Option Nat} {f : Nat} {args : List Arg} {r : List zA} {live : List Nat} {R : Value → Hp → Prop} (h0 : pB fr args) (h1 : Fn E.P (E.fn f) (args.map (vo E fr)) H R)
  (h:∀ v H',R v H'→zT E (.ops r live :: k) (setD fr d ⟨true,.val v⟩) H' Q) :
  zT E (.ops (⟨d,.call f args,none⟩ :: r) live :: k) fr H Q:=by
 simp only [zT,kE,wJ,vG,yM,xQ]
 refine⟨trivial,fun _=>⟨h0,R,h1,fun v H' hr=>?_⟩,fun e=>by cases e⟩
 simpa [zT] using h v H' hr
theorem wU {d : Option Nat} {x : Arg} {args : List Arg} {r : List zA} {live : List Nat} {R : Value → Hp → Prop} (h0 : vok fr x) (h0' : pB fr args) (h1 : FnV E (vo E fr x) (args.map (vo E fr)) H R)
  (h:∀ v H',R v H'→zT E (.ops r live :: k) (setD fr d ⟨true,.val v⟩) H' Q) :
  zT E (.ops (⟨d,.callv x args,none⟩ :: r) live :: k) fr H Q:=by
 simp only [zT,kE,wJ,vG,yM,xQ]
 refine⟨trivial,fun _=>⟨h0,h0',R,h1,fun v H' hr=>?_⟩,fun e=>by cases e⟩
 simpa [zT] using h v H' hr
theorem yTE (a b:Bool):(bif a then true else b)=(a || b):=by cases a<;>rfl
theorem yRC (a b:Bool):(bif a then b else false)=(a && b):=by cases a<;>rfl
theorem yGu (a:Bool):(a == false) = !a:=by cases a<;>rfl
theorem yPs (a:Bool):(a == true)=a:=by cases a<;>rfl
end
abbrev Js (d:Nat) (x:jW):zA:=⟨some d,.sim x,none⟩
abbrev Jt (d:Nat) (x:jW) (g:Nat):zA:=⟨some d,.sim x,some (g,true)⟩
abbrev Jn (d:Nat) (x:jW) (g:Nat):zA:=⟨some d,.sim x,some (g,false)⟩
abbrev Jm (d s:Nat):zA:=⟨some d,.sim (.mov (.t s)),none⟩
abbrev Jc (d:Nat) (v:Value):zA:=⟨some d,.sim (.mov (.c v)),none⟩
abbrev Jf (d k s:Nat):zA:=⟨some d,.sim (.fld k (.t s)),none⟩
abbrev Jl (d s:Nat):zA:=⟨some d,.sim (.ld none (.t s)),none⟩
abbrev Jk (d n s:Nat):zA:=⟨some d,.sim (.ld (some n) (.t s)),none⟩
abbrev Jp (d f:Nat) (a:List Arg):zA:=⟨some d,.callp f a,none⟩
abbrev Jx (d f:Nat) (a:List Arg):zA:=⟨some d,.call f a,none⟩
abbrev Jw (k a b:Nat):zA:=⟨none,.st k (.t a) (.t b),none⟩
abbrev Ji (d k a b:Nat):zA:=⟨some d,.sim (.idx k (.t a) (.t b)),none⟩
abbrev Je (d s:Nat):zA:=⟨some d,.sim (.len false (.t s)),none⟩
abbrev Ja (d a b:Nat):zA:=⟨some d,.sim (.pick (.t a) (.t b) (.c (.bool false))),none⟩
abbrev Jr (d a b:Nat):zA:=⟨some d,.sim (.pick (.t a) (.c (.bool true)) (.t b)),none⟩
abbrev Ju (d s g:Nat):zA:=⟨some d,.sim (.mov (.t s)),some (g,true)⟩
abbrev Jv (d s g:Nat):zA:=⟨some d,.sim (.mov (.t s)),some (g,false)⟩
abbrev Kf (d k s g:Nat):zA:=⟨some d,.sim (.fld k (.t s)),some (g,true)⟩
abbrev Kg (d k s g:Nat):zA:=⟨some d,.sim (.fld k (.t s)),some (g,false)⟩
abbrev Kl (d s g:Nat):zA:=⟨some d,.sim (.ld none (.t s)),some (g,true)⟩
abbrev Km (d s g:Nat):zA:=⟨some d,.sim (.ld none (.t s)),some (g,false)⟩
abbrev Kb (d:Nat) (o:BinOp) (a:Nat) (n:Int):zA:=⟨some d,.sim (.bin o (.t a) (.c (.int .i64 n))),none⟩
abbrev Kc (d:Nat) (o:BinOp) (a b:Nat):zA:=⟨some d,.sim (.bin o (.t a) (.t b)),none⟩
abbrev Ke (d k s:Nat):zA:=⟨some d,.sim (.ext k (.t s)),none⟩
abbrev Kx (d s:Nat):zA:=⟨some d,.sim (.box (.t s)),none⟩
abbrev Kn (d s:Nat):zA:=⟨some d,.sim (.not (.t s)),none⟩
abbrev Jz (r:List zA) (l:List Nat) (c:vQ):vQ:=.seq (.reg r l) c
end Go.SL
namespace Go.SL
open Go
def yIa : List zA := [
 Kx 1 0,Jc 2 (.bool false)]
def yLw : List zA := [
 Jf 10 8 1,Jl 11 10,Kb 12 .lss 11 1,Jm 13 12,Kg 14 8 1 13,Km 15 14 13,Jn 16 (.bin .gtr (.t 15) (.c (.int .i64 10000000))) 13,Jr 17 13 16,Jm 18 17,Kg 19 7 1 18,Km 20 19 18,Jn 21 (.bin .lss (.t 20) (.c (.int .i64 0))) 18,Jr 22 18 21,Jm 23 22,Kg 24 7 1 23,Km 25 24 23,Jn 26 (.bin .gtr (.t 25) (.c (.int .i64 1000))) 23,Jr 27 23 26,Jm 28 27,Kg 29 1 1 28,Km 30 29 28,Jn 31 (.len false (.t 30)) 28,Jn 32 (.bin .gtr (.t 31) (.c (.int .i64 4000))) 28,Jr 33 28 32]
def yHT : List zA := [
 Jc 2 (.bool false)]
def yNV : List zA := [
 Jf 34 0 1,Jl 35 34,Jf 36 2 1,Jk 37 4 36,Jf 38 6 1,Jl 39 38,Js 40 (.bld [.slice none 0 0,.slice none 0 0,.string ⟨#[]⟩,.int .i64 0,.int .i64 0,.slice none 0 0,.slice none 0 0] [(0,1,.t 35),(2,4,.t 37),(6,1,.t 39)]),Jp 41 14 [.t 40],Kn 42 41]
def yKV : List zA := [
 Jc 2 (.bool false)]
def yHH : List zA := [
 ⟨some 43,.mkmap none,none⟩,Jm 3 43]
def yQi : List zA := [
 Jf 44 1 1,Jl 45 44,Je 46 45,Jc 47 (.int .i64 0)]
def yId : List zA := [
 Kc 48 .lss 47 46]
def yMJ : List zA := [
 Ji 49 5 45 47,Jk 50 5 49,Js 5 (.new [.int .i64 0,.int .i64 0,.int .i64 0,.string ⟨#[]⟩,.slice none 0 0]),Jw 5 5 50]
def yOX : List zA := [
 Jf 51 0 5,Jl 52 51,Kb 53 .lss 52 0,Jm 54 53,Kg 55 0 5 54,Km 56 55 54,Kg 57 0 1 54,Km 58 57 54,Jn 59 (.len false (.t 58)) 54,Jn 60 (.bin .geq (.t 56) (.t 59)) 54,Jr 61 54 60,Jm 62 61,Kg 63 1 5 62,Km 64 63 62,Jn 65 (.bin .lss (.t 64) (.c (.int .i64 0))) 62,Jr 66 62 65,Jm 67 66,Kg 68 1 5 67,Km 69 68 67,Kg 70 2 5 67,Km 71 70 67,Jn 72 (.bin .geq (.t 69) (.t 71)) 67,Jr 73 67 72,Jm 74 73,Kg 75 2 5 74,Km 76 75 74,Kg 77 8 1 74,Km 78 77 74,Jn 79 (.bin .gtr (.t 76) (.t 78)) 74,Jr 80 74 79]
def zSI : List zA := [
 Jc 2 (.bool false)]
def zVP : List zA := [
 Jf 81 3 5,Jk 82 2 81,Jp 83 43 [.t 82],Kn 84 83]
def zYp : List zA := [
 Jc 2 (.bool false)]
def yBn : List zA := [
 Jf 85 0 5,Jl 86 85,Jf 87 3 5,Jf 88 0 87,Jl 89 88,Js 90 (.bld [.int .i64 0,.string ⟨#[]⟩] [(0,1,.t 86),(1,1,.t 89)]),Js 6 (.new [.int .i64 0,.string ⟨#[]⟩]),Jw 2 6 90]
def yCO : List zA := [
 Jm 91 3,Jk 92 2 6,Jf 94 1 5,Jl 95 94,Jf 96 2 5,Jl 97 96,Js 98 (.bld [.int .i64 0,.int .i64 0] [(0,1,.t 95),(1,1,.t 97)]),
 ⟨some 99,.mksl 2 1 [.int .i64 0,.int .i64 0] [(0,2,.t 98)],none⟩,
 ⟨some 100,.ment true [.i,.s] (.slice none 0 0) (.t 91) (.t 92),none⟩,Ke 93 0 100,
 ⟨some 101,.app 2 16 [.int .i64 0,.int .i64 0] (.t 93) (.t 99),none⟩,Ke 102 1 100,
 ⟨none,.est (.t 91) (.t 102) (.t 101),none⟩]
def zZh : List zA := [
 Kb 103 .add 47 1,Jm 47 103]
def zWN : List zA := [
 Jm 104 3,
 ⟨some 105,.rng (.t 104),none⟩]
def zUb : List zA := [
 ⟨some 106,.nxt (.t 105),none⟩,Ke 107 0 106]
def yCp : List zA := [
 ⟨some 108,.ent (.t 105),none⟩,Ke 109 1 108,Jm 8 109]
def yDm : List zA := [
 Jm 110 8,Jx 111 87 [.t 110,.f 121]]
def zXL : List zA := [
 Jc 9 (.int .i64 1)]
def zVg : List zA := [
 Jm 112 9,Jm 113 8,Je 114 113,Kc 115 .lss 112 114]
def zTB : List yS := [
 ⟨0,Jm 118 8,[]⟩,
 ⟨1,Jm 119 9,[]⟩,
 ⟨2,Ji 120 2 118 119,[]⟩,
 ⟨3,Jf 121 0 120,[]⟩,
 ⟨4,Jl 122 121,[]⟩,
 ⟨5,Jm 123 8,[]⟩,
 ⟨6,Jm 124 9,[]⟩,
 ⟨7,Kb 125 .sub 124 1,[]⟩,
 ⟨8,Ji 126 2 123 125,[]⟩,
 ⟨9,Jf 127 1 126,[]⟩,
 ⟨10,Jl 128 127,[]⟩,
 ⟨11,Kc 129 .lss 122 128,[]⟩]
def zXQ : List zA := [
 Jc 2 (.bool false)]
def zZy : List zA := [
 Jm 116 9,Kb 117 .add 116 1,Jm 9 117]
def zVE : List zA := [
 Jf 130 1 1,Jl 131 130,Jx 132 119 [.t 131,.f 120],Je 133 132,Kb 134 .leq 133 500,Jm 2 134]
def yHn : zJ := ⟨135, [.slot 2],
  (Jz yIa [1] (.seq (Jz yLw [1,33] (.cond (.t 33) (Jz yHT [2] .ret) .skip)) (.seq (Jz yNV [1,42] (.cond (.t 42) (Jz yKV [2] .ret) .skip)) (Jz yHH [1,3] (.seq (Jz yQi [1,3,45,46,47] (.block 0 (.loop [1,3,45,46,47] (Jz yId [1,3,45,46,47,48] (.seq (.cond (.t 48) .skip (.exit 0)) (.seq (.block 1 (Jz yMJ [1,3,5,45,46,47] (.seq (Jz yOX [1,3,5,45,46,47,80] (.cond (.t 80) (Jz zSI [2] .ret) .skip)) (.seq (Jz zVP [1,3,5,45,46,47,84] (.cond (.t 84) (Jz zYp [2] .ret) .skip)) (Jz yBn [1,3,5,6,45,46,47] (.reg yCO [1,3,45,46,47])))))) (.reg zZh [1,3,45,46,47]))))))) (.seq (Jz zWN [1,105] (.block 2 (.loop [1,105] (Jz zUb [1,105,107] (.seq (.cond (.t 107) .skip (.exit 2)) (.block 3 (Jz yCp [1,8,105] (Jz yDm [1,8,105] (Jz zXL [1,8,9,105] (.block 4 (.loop [1,8,9,105] (.seq (Jz zVg [1,8,9,105,115] (.cond (.t 115) .skip (.exit 4))) (.seq (.block 5 (.seq (.regd zTB [1,8,9,105,129]) (.cond (.t 129) (Jz zXQ [2] .ret) .skip))) (.reg zZy [1,8,9,105])))))))))))))) (Jz zVE [2] .ret)))))))⟩
def zTO : List zA := [
 Kx 2 0,Kx 3 1,Jc 4 (.int .i64 0)]
def zWw : List zA := [
 Jf 5 0 2,Jl 6 5,Jf 7 0 3,Jl 8 7,Jp 9 89 [.t 6,.t 8],Jm 4 9]
def zLZ : zJ := ⟨10, [.slot 4],
  (Jz zTO [2,3] (Jz zWw [4] .ret))⟩
def zKs : List zA := [
 Jm 10 1,Kb 11 .add 10 1,Jm 8 11]
def zKG : List zA := [
 Jm 12 8,Jm 13 2,Kc 14 .lss 12 13]
def zJU : List zA := [
 Jm 17 8,Jm 9 17]
def zKf : List yS := [
 ⟨0,Jm 18 9,[]⟩,
 ⟨1,Jm 19 1,[]⟩,
 ⟨2,Kc 20 .gtr 18 19,[]⟩,
 ⟨3,Jm 21 20,[]⟩,
 ⟨4,Ju 22 3 21,[]⟩,
 ⟨5,Ju 23 0 21,[]⟩,
 ⟨6,Ju 24 9 21,[]⟩,
 ⟨7,Jt 25 (.idx 2 (.t 23) (.t 24)) 21,[]⟩,
 ⟨8,Jt 26 (.ld (some 2) (.t 25)) 21,[]⟩,
 ⟨9,Ju 27 0 21,[]⟩,
 ⟨10,Ju 28 9 21,[]⟩,
 ⟨11,Jt 29 (.bin .sub (.t 28) (.c (.int .i64 1))) 21,[]⟩,
 ⟨12,Jt 30 (.idx 2 (.t 27) (.t 29)) 21,[]⟩,
 ⟨13,Jt 31 (.ld (some 2) (.t 30)) 21,[]⟩,
 ⟨14,⟨some 32,.callv (.t 22) [.t 26,.t 31],(some (21,true))⟩,[]⟩,
 ⟨15,Jt 33 (.bin .lss (.t 32) (.c (.int .i64 0))) 21,[]⟩,
 ⟨16,Ja 34 21 33,[]⟩]
def zKB : List yS := [
 ⟨0,Jm 37 0,[]⟩,
 ⟨1,Jm 38 9,[]⟩,
 ⟨2,Jm 39 0,[]⟩,
 ⟨3,Jm 40 9,[]⟩,
 ⟨4,Kb 41 .sub 40 1,[]⟩,
 ⟨5,Jm 42 0,[]⟩,
 ⟨6,Jm 43 9,[]⟩,
 ⟨7,Kb 44 .sub 43 1,[]⟩,
 ⟨8,Ji 45 2 42 44,[]⟩,
 ⟨9,Jk 46 2 45,[]⟩,
 ⟨10,Jm 47 0,[]⟩,
 ⟨11,Jm 48 9,[]⟩,
 ⟨12,Ji 49 2 47 48,[]⟩,
 ⟨13,Jk 50 2 49,[]⟩,
 ⟨14,Ji 51 2 37 38,[]⟩,
 ⟨15,Jw 2 51 46,[2,3,4]⟩,
 ⟨16,Ji 52 2 39 41,[]⟩,
 ⟨17,Jw 2 52 50,[]⟩]
def zKw : List zA := [
 Jm 35 9,Kb 36 .sub 35 1,Jm 9 36]
def zKa : List zA := [
 Jm 15 8,Kb 16 .add 15 1,Jm 8 16]
def zHo : zJ := ⟨53, [],
  (Jz zKs [0,1,2,3,8] (.block 0 (.loop [0,1,2,3,8] (.seq (Jz zKG [0,1,2,3,8,14] (.cond (.t 14) .skip (.exit 0))) (.seq (.block 1 (Jz zJU [0,1,2,3,8,9] (.block 2 (.loop [0,1,2,3,8,9] (.seq (.seq (.regd zKf [0,1,2,3,8,9,34]) (.cond (.t 34) .skip (.exit 2))) (.seq (.block 3 (.regd zKB [0,1,2,3,8,9])) (.reg zKw [0,1,2,3,8,9]))))))) (.reg zKa [0,1,2,3,8]))))))⟩
def zYC : List zA := [
 Jc 2 (.int .i64 0)]
def yAS : List zA := [
 Jm 3 0,Js 4 (.bin .geq (.t 3) (.c (.int .u64 4294967296)))]
def yDN : List zA := [
 Jm 5 0,Js 6 (.bin .shr (.t 5) (.c (.int .u64 32))),Jm 0 6]
def yBg : List zA := [
 Jc 2 (.int .i64 32)]
def yAc : List zA := [
 Jm 7 0,Js 8 (.bin .geq (.t 7) (.c (.int .u64 65536)))]
def yDn : List zA := [
 Jm 9 0,Js 10 (.bin .shr (.t 9) (.c (.int .u64 16))),Jm 0 10]
def zTo : List zA := [
 Jm 11 2,Kb 12 .add 11 16,Jm 2 12]
def zWZ : List zA := [
 Jm 13 0,Js 14 (.bin .geq (.t 13) (.c (.int .u64 256)))]
def yBZ : List zA := [
 Jm 15 0,Js 16 (.bin .shr (.t 15) (.c (.int .u64 8))),Jm 0 16]
def zYd : List zA := [
 Jm 17 2,Kb 18 .add 17 8,Jm 2 18]
def zQL : List zA := [
 Jm 19 2,Jm 20 0,Js 21 (.cvi .u8 (.t 20)),Js 22 (.idxs (.c (.string ⟨#[0,1,2,2,3,3,3,3,4,4,4,4,4,4,4,4,5,5,5,5,5,5,5,5,5,5,5,5,5,5,5,5,6,6,6,6,6,6,6,6,6,6,6,6,6,6,6,6,6,6,6,6,6,6,6,6,6,6,6,6,6,6,6,6,7,7,7,7,7,7,7,7,7,7,7,7,7,7,7,7,7,7,7,7,7,7,7,7,7,7,7,7,7,7,7,7,7,7,7,7,7,7,7,7,7,7,7,7,7,7,7,7,7,7,7,7,7,7,7,7,7,7,7,7,7,7,7,7,8,8,8,8,8,8,8,8,8,8,8,8,8,8,8,8,8,8,8,8,8,8,8,8,8,8,8,8,8,8,8,8,8,8,8,8,8,8,8,8,8,8,8,8,8,8,8,8,8,8,8,8,8,8,8,8,8,8,8,8,8,8,8,8,8,8,8,8,8,8,8,8,8,8,8,8,8,8,8,8,8,8,8,8,8,8,8,8,8,8,8,8,8,8,8,8,8,8,8,8,8,8,8,8,8,8,8,8,8,8,8,8,8,8,8,8,8,8,8,8,8,8,8,8,8,8,8,8]⟩)) (.t 21)),Js 23 (.cvi .i64 (.t 22)),Kc 24 .add 19 23,Jm 2 24]
def zMJ : zJ := ⟨25, [.slot 2],
  (Jz zYC [0,2] (.seq (Jz yAS [0,2,4] (.cond (.t 4) (Jz yDN [0] (.reg yBg [0,2])) .skip)) (.seq (Jz yAc [0,2,8] (.cond (.t 8) (Jz yDn [0,2] (.reg zTo [0,2])) .skip)) (.seq (Jz zWZ [0,2,14] (.cond (.t 14) (Jz yBZ [0,2] (.reg zYd [0,2])) .skip)) (Jz zQL [2] .ret)))))⟩
end Go.SL
/- Data in memory: strings, slices of structs, maps; how they stand in rows. -/
namespace Go.SL
open Go
abbrev Bs:=List UInt8
abbrev S (l:Bs):Value:=.string ⟨l.toArray⟩
theorem yWf (l:Bs):(⟨l.toArray⟩:ByteArray).size=l.length:=by simp [ByteArray.size]
theorem yVN (l:Bs):(⟨l.toArray⟩:ByteArray).data.toList=l:=by simp
theorem yKF (l : Bs) (i j : Nat) : (⟨l.toArray⟩ : ByteArray).extract i j = ⟨((l.drop i).take (j - i)).toArray⟩ := by
 apply ByteArray.ext
 simp [ByteArray.data_extract]
theorem yYv (b:ByteArray):b = ⟨b.data.toList.toArray⟩:=by cases b; simp
theorem yUG (l:Bs):strOf (S l)=l:=by simp [strOf]
theorem zH {vs r : List Value} {o sz j : Nat} (h : (vs.drop o).take sz = r) (hj : j < sz) : vs.getD (o + j) undef = r.getD j undef := by
 subst h
 simp only [List.getD_eq_getElem?_getD,List.getElem?_take,hj,if_true,List.getElem?_drop]
theorem qF {vs r : List Value} {o sz : Nat} (h : (vs.drop o).take sz = r) (j m : Nat) (hj : j + m ≤ sz) : (vs.drop (o + j)).take m = (r.drop j).take m := by
 subst h
 rw [List.drop_take,List.take_take,List.drop_drop,Nat.min_eq_left (by omega)]
def zG (H : Hp) (sz : Nat) (v : Value) (n : Nat) (row : Nat → List Value) : Prop :=
 ∃ a cap, v = .slice a n cap ∧ (a = none → n = 0) ∧
  (0 < n→∃ b o vs c wr,a=some ⟨b,o,none⟩∧H b=some (.row vs c wr)∧∀ i,i < n→o + i * sz + sz≤vs.length∧(vs.drop (o + i * sz)).take sz=row i)
theorem zG.mono {H H' : Hp} {sz : Nat} {v : Value} {n : Nat} {row : Nat → List Value} (h : zG H sz v n row) (hl : H.le H') : zG H' sz v n row := by
 obtain⟨a,cap,hv,hs,hr⟩:=h
 refine⟨a,cap,hv,hs,fun hn=>?_⟩
 obtain⟨b,o,vs,c,wr,ha,hb,hi⟩:=hr hn
 exact⟨b,o,vs,c,wr,ha,hl _ _ hb,hi⟩
theorem zG.row_congr {H : Hp} {sz : Nat} {v : Value} {n : Nat} {row row' : Nat → List Value} (h : zG H sz v n row) (he : ∀ i, i < n → row i = row' i) : zG H sz v n row' := by
 obtain⟨a,cap,hv,hs,hr⟩:=h
 refine⟨a,cap,hv,hs,fun hn=>?_⟩
 obtain⟨b,o,vs,c,wr,ha,hb,hi⟩:=hr hn
 exact⟨b,o,vs,c,wr,ha,hb,fun i h=>⟨(hi i h).1,(hi i h).2.trans (he i h)⟩⟩
theorem zG.nil {H:Hp} {sz:Nat} {row:Nat→List Value}:zG H sz (.slice none 0 0) 0 row:=⟨none,0,rfl,(fun _=>rfl),fun h=>absurd h (Nat.lt_irrefl 0)⟩
structure xN where
 text:Bs
 n:Int
 m:Int
 deriving DecidableEq,Inhabited
structure kT where
 zone:Bs
 key:Int
 alg:Int
 from_:Int
 till:Int
 sum:Int
 deriving DecidableEq,Inhabited
structure zF where
 name:Bs
 type:Int
 life:Int
 data:List xN
 sigs:List kT
 deriving DecidableEq,Inhabited
structure xO where
 host:Int
 apex:Bs
 sets:List zF
 deriving DecidableEq,Inhabited
structure uP where
 name:Bs
 addr:Int
 owner:Int
 deriving DecidableEq,Inhabited
structure zCI where
 hosts:List uP
 zones:List xO
 aname:Bs
 atype:Int
 alife:Int
 adata:List xN
 hints:List Int
 deriving DecidableEq,Inhabited
def jD (ds:List xN) (i:Nat):List Value:=[S (ds.getD i default).text,.int .i64 (ds.getD i default).n,.int .i64 (ds.getD i default).m]
def zBi (gs:List kT) (i:Nat):List Value:=[S (gs.getD i default).zone,.int .i64 (gs.getD i default).key,.int .i64 (gs.getD i default).alg,.int .i64 (gs.getD i default).from_,.int .i64 (gs.getD i default).till,.int .u64 (gs.getD i default).sum]
def zBD (hs:List uP) (i:Nat):List Value:=[S (hs.getD i default).name,.int .i64 (hs.getD i default).addr,.int .i64 (hs.getD i default).owner]
def wH (ns:List Int) (i:Nat):List Value:=[.int .i64 (ns.getD i 0)]
def xA (ss:List zF) (d g:Nat→Value) (i:Nat):List Value:=[S (ss.getD i default).name,.int .i64 (ss.getD i default).type,.int .i64 (ss.getD i default).life,d i,g i]
def vW (ps:List xO) (z:Nat→Value) (i:Nat):List Value:=[.int .i64 (ps.getD i default).host,S (ps.getD i default).apex,z i]
def xC (H:Hp) (v:Value) (ds:List xN):Prop:=zG H 3 v ds.length (jD ds)
def xT (H:Hp) (v:Value) (gs:List kT):Prop:=zG H 6 v gs.length (zBi gs)
def xV (H:Hp) (v:Value) (hs:List uP):Prop:=zG H 3 v hs.length (zBD hs)
def xE (H:Hp) (v:Value) (ns:List Int):Prop:=zG H 1 v ns.length (wH ns)
def xL (H:Hp) (v:Value) (ss:List zF):Prop:=∃ d g,zG H 5 v ss.length (xA ss d g)∧∀ i,i < ss.length→xC H (d i) (ss.getD i default).data∧xT H (g i) (ss.getD i default).sigs
def pL (H:Hp) (v:Value) (ps:List xO):Prop:=∃ z,zG H 3 v ps.length (vW ps z)∧∀ i,i < ps.length→xL H (z i) (ps.getD i default).sets
section
variable {H H':Hp} {v:Value}
theorem xC.mono {ds:List xN} (h:xC H v ds) (hl:H.le H'):xC H' v ds:=zG.mono h hl
theorem xT.mono {gs:List kT} (h:xT H v gs) (hl:H.le H'):xT H' v gs:=zG.mono h hl
theorem xV.mono {hs:List uP} (h:xV H v hs) (hl:H.le H'):xV H' v hs:=zG.mono h hl
theorem xE.mono {ns:List Int} (h:xE H v ns) (hl:H.le H'):xE H' v ns:=zG.mono h hl
theorem xL.mono {ss : List zF} (h : xL H v ss) (hl : H.le H') : xL H' v ss := by
 obtain⟨d,g,h1,h2⟩:=h
 exact⟨d,g,h1.mono hl,fun i hi=>⟨(h2 i hi).1.mono hl,(h2 i hi).2.mono hl⟩⟩
theorem pL.mono {ps : List xO} (h : pL H v ps) (hl : H.le H') : pL H' v ps := by
 obtain⟨z,h1,h2⟩:=h
 exact⟨z,h1.mono hl,fun i hi=>(h2 i hi).mono hl⟩
end
theorem zM {H:Hp} {b:Nat} (h:H b=none) (o:xD):H.le (H.put b o):=Hp.le.put h
theorem zHq (H : Hp) (b : Nat) (o o' : xD) : (H.put b o).put b o' = H.put b o' := by
 funext c
 simp only [Hp.put]
 split<;>rfl
theorem zI {H0 H : Hp} {b : Nat} (h : H0.le H) (hb : H0 b = none) (o : xD) : H0.le (H.put b o) := fun c p hc => by
 rw [Hp.put_ne]
 ·exact h c p hc
 ·rintro rfl; rw [hb] at hc; cases hc
def uR (H:Hp) (m:Nat) (l:List (Value × Value)):Prop:=∃ es clock,H m=some (.obj (.map es clock))∧es.toList.map (fun e=>(e.key,e.val))=l
section
variable {κ ν:Type} [DecidableEq κ]
def yK (k : κ) : List (κ × ν) → Option ν
 | []=>none
 | (k',v) :: r=>if k=k' then some v else yK k r
def xU (k : κ) (v : ν) : List (κ × ν) → List (κ × ν)
 | []=>[(k,v)]
 | (k',v') :: r=>if k=k' then (k,v) :: r else (k',v') :: xU k v r
theorem zAq (k k' : κ) (v : ν) (l : List (κ × ν)) : yK k' (xU k v l) = if k' = k then some v else yK k' l := by
 induction l with
 | nil=>simp [xU,yK]
 | cons e r ih =>
  obtain⟨j,u⟩:=e
  simp only [xU]
  by_cases h:k=j
  ·subst h
   by_cases h':k'=k
   ·simp [yK,h']
   ·simp [yK,h']
  ·simp only [if_neg h,yK,ih]
   by_cases h':k'=j
   ·subst h'
    simp [Ne.symm h]
   ·simp [h']
theorem zEi {ag : Bool} {ks : List Kd} {enc : κ → Value} {encv : ν → Value} (hk : ∀ a b, uT ag ks (enc a) (enc b) = some (decide (a = b))) (k : κ) :
  ∀ (es : List MapEntry) (l : List (κ × ν)) (i : Nat), es.map (fun e => (e.key, e.val)) = l.map (fun e => (enc e.1, encv e.2)) →
   (yK k l=none→uI ag ks (enc k) es i=some none) ∧
   (∀ v, yK k l = some v → ∃ j, i ≤ j ∧ uI ag ks (enc k) es i = some (some (j, encv v)) ∧
    ∀ (f:MapEntry→MapEntry) (u:ν),(∀ e,(f e).key=enc k∧(f e).val=encv u)→(es.modify (j - i) f).map (fun e=>(e.key,e.val))=(xU k u l).map (fun e=>(enc e.1,encv e.2)))
 | [],[],i,_=>⟨fun _=>rfl,fun v h=>by cases h⟩
 | [],_ :: _,i,h=>by simp at h
 | _ :: _,[],i,h=>by simp at h
 | e :: es, (k', u') :: l, i, h => by
  simp only [List.map_cons,List.cons.injEq,Prod.mk.injEq] at h
  obtain⟨⟨h1,h2⟩,h3⟩:=h
  have ih:=zEi hk k es l (i + 1) h3
  simp only [yK,uI,h1,hk,xU]
  by_cases hkk:k=k'
  ·subst hkk
   refine⟨fun h=>by simp at h,fun v hv=>⟨i,Nat.le_refl _,?_,fun f u hf=>?_⟩⟩
   ·simp only [if_true,Option.some.injEq] at hv
    subst hv
    simp [h2]
   ·simp [hf e,h3]
  ·simp only [hkk,if_false,decide_false]
   refine⟨ih.1,fun v hv=>?_⟩
   obtain⟨j,hj,hm,hmod⟩:=ih.2 v hv
   refine⟨j,by omega,hm,fun f u hf=>?_⟩
   have e1:j - i=(j - (i + 1)) + 1:=by omega
   rw [e1]
   simp only [List.modify_succ_cons,List.map_cons,hmod f u hf,h1,h2]
end
section
variable {E:Env} {fr:Fr} {H:Hp} {Q:X→Fr→Hp→Prop} {k:List Item} {κ ν:Type} [DecidableEq κ]
theorem zBe {d : Option Nat} {ag : Bool} {ks : List Kd} {zero : Value} {ok : Bool} {m x : Arg} {r : List zA} {live : List Nat} {enc : κ → Value} {encv : ν → Value} {l : List (κ × ν)} {b : Nat}
  (key:κ) (hk:∀ a b,uT ag ks (enc a) (enc b)=some (decide (a=b))) (hki:zBd ag ks (enc key)) (h1:vok fr m) (h2:vok fr x) (hm:vo E fr m = .map (some b)) (hx:vo E fr x=enc key)
  (hM:uR H b (l.map fun e=>(enc e.1,encv e.2)))
  (h:zT E (.ops r live :: k) (setD fr d ⟨true,.val (if ok then .tuple #[((yK key l).map encv).getD zero,.bool (yK key l).isSome] else ((yK key l).map encv).getD zero)⟩) H Q) :
  zT E (.ops (⟨d,.look ag ks zero ok m x,none⟩ :: r) live :: k) fr H Q:=by
 obtain⟨es,clock,hH,he⟩:=hM
 simp only [zT,kE,wJ,vG,yM,xQ] at h ⊢
 refine⟨trivial,fun _=>⟨h1,h2,by rw [hx]; exact hki,?_⟩,fun e=>by cases e⟩
 have hf:=zEi hk key es.toList l 0 he
 simp only [hm,hH,hx]
 cases hg:yK key l with
 | none =>
  rw [hf.1 hg]
  simpa [hg] using h
 | some v =>
  obtain⟨j,_,hj,_⟩:=hf.2 v hg
  rw [hj]
  simpa [hg] using h
theorem zCq {d : Option Nat} {ag : Bool} {ks : List Kd} {m x y : Arg} {r : List zA} {live : List Nat} {enc : κ → Value} {encv : ν → Value} {l : List (κ × ν)} {b : Nat}
  (key:κ) (val:ν) (hk:∀ a b,uT ag ks (enc a) (enc b)=some (decide (a=b))) (hki:zBd ag ks (enc key)) (h1:vok fr m) (h2:vok fr x) (h3:vok fr y) (hm:vo E fr m = .map (some b)) (hx:vo E fr x=enc key) (hy:vo E fr y=encv val)
  (hM:uR H b (l.map fun e=>(enc e.1,encv e.2)))
  (h:∀ o,(∀ H',uR (Hp.put H' b o) b ((xU key val l).map fun e=>(enc e.1,encv e.2)))→zT E (.ops r live :: k) (setD fr d ⟨true,.val undef⟩) (H.put b o) Q) :
  zT E (.ops (⟨d,.upd ag ks m x y,none⟩ :: r) live :: k) fr H Q:=by
 obtain⟨es,clock,hH,he⟩:=hM
 simp only [zT,kE,wJ,vG,yM,xQ] at h ⊢
 refine⟨trivial,fun _=>⟨h1,h2,h3,by rw [hx]; exact hki,?_⟩,fun e=>by cases e⟩
 have hf:=zEi hk key es.toList l 0 he
 simp only [hm,hH,hx,hy]
 cases hg:yK key l with
 | none =>
  rw [hf.1 hg]
  refine h _ fun H'=>⟨_,_,Hp.put_same ..,?_⟩
  have : xU key val l = l ++ [(key, val)] := by
   clear hf h he
   induction l with
   | nil=>rfl
   | cons e r ih =>
    obtain⟨k',u⟩:=e
    simp only [yK] at hg
    split at hg
    ·cases hg
    ·rename_i hne
     simp [xU,hne,ih hg]
  simp [this,he]
 | some v =>
  obtain⟨j,_,hj,hmod⟩:=hf.2 v hg
  rw [hj]
  refine h _ fun H'=>⟨_,_,Hp.put_same ..,?_⟩
  have:=hmod (fun e=>{ e with key:=enc key,val:=encv val }) val (fun e=>⟨rfl,rfl⟩)
  simpa using this
end
end Go.SL
/- What the functions compute: names, records, zones, worlds, in plain Lean. -/
namespace Go.SL
open Go
def zO (P : Nat → Bool) : Nat → Bool
 | 0=>true
 | n + 1=>zO P n && P n
theorem zY {P : Nat → Bool} {n k : Nat} (hk : k < n) (h : P k = false) : zO P n = false := by
 induction n with
 | zero=>omega
 | succ n ih =>
  simp only [zO]
  by_cases e:k=n
  ·subst e; simp [h]
  ·simp [ih (by omega)]
theorem yH {P : Nat → Bool} {n : Nat} : zO P n = true ↔ ∀ k, k < n → P k = true := by
 induction n with
 | zero=>simp [zO]
 | succ n ih =>
  simp only [zO,Bool.and_eq_true,ih]
  constructor
  ·rintro⟨h,hn⟩ k hk
   by_cases e:k=n
   ·subst e; exact hn
   ·exact h k (by omega)
  ·exact fun h=>⟨fun k hk=>h k (by omega),h n (by omega)⟩
theorem yJ {P:Nat→Bool} {n:Nat} (h:zO P n=true) (h':P n=true):zO P (n + 1)=true:=by simp [zO,h,h']
def vA (P : Nat → Bool) : Nat → Bool
 | 0=>false
 | n + 1=>vA P n || P n
theorem zHb {P : Nat → Bool} {n k : Nat} (hk : k < n) (h : P k = true) : vA P n = true := by
 induction n with
 | zero=>omega
 | succ n ih =>
  simp only [vA]
  by_cases e:k=n
  ·subst e; simp [h]
  ·simp [ih (by omega)]
def uL (c : UInt8) (l : Bs) : Nat → Option Nat
 | 0=>none
 | k + 1=>if l.getD k 0=c then some k else uL c l k
def lastIx (c:UInt8) (l:Bs):Option Nat:=uL c l l.length
theorem yFM {c : UInt8} {l : Bs} {k i : Nat} (h : uL c l k = some i) : i < k := by
 induction k with
 | zero=>cases h
 | succ k ih =>
  simp only [uL] at h
  split at h
  ·cases h; omega
  ·have:=ih h; omega
theorem uO {c:UInt8} {l:Bs} {i:Nat} (h:lastIx c l=some i):i < l.length:=yFM h
def ixI (o : Option Nat) : Int := match o with
 | none=>-1
 | some i=>i
def wZ : Nat → Bs → List Bs
 | 0,_=>[]
 | n + 1, l => match lastIx 46 l with
  | none=>[l]
  | some i=>l.drop (i + 1) :: wZ n (l.take i)
def zW (l:Bs):List Bs:=if l = [46] then [] else wZ (l.length + 1) l
def bI (l:Bs) (i:Nat):Int:=(l.getD i 0).toNat
def okc (c:Int):Bool:=!((decide (c < 97) || decide (c > 122)) && (decide (c < 48) || decide (c > 57)) && (c != 45))
def vT (l:Bs):Bool:=!(decide ((l.length:Int) < 1) || decide ((l.length:Int) > 12) || bI l 0 == 45 || bI l (l.length - 1) == 45) && zO (fun i=>okc (bI l i)) l.length
def uW : List Bs → Nat → Bool → Bool
 | [],_,_=>true
 | x :: r,c,w=>if w || decide (c + 1 > 8) then false else if !(x == [42]) && !vT x then false else uW r (c + 1) (x == [42])
def zK (l:Bs):Bool:=l == [46] || (decide (l.length≤60) && uW (zW l) 0 false)
def zBB (s p:Bs):Bool:=decide (p.length≤s.length) && s.take p.length == p
def zCa (s p:Bs):Bool:=decide (p.length≤s.length) && s.drop (s.length - p.length) == p
def pV (s z:Bs):Bool:=zK s && zK z && (s == z || z == [46] || (decide (z.length < s.length) && zCa s z && bI s (s.length - z.length - 1) == 46))
def zGr (s z:Bs):Int:=if zK s && zK z then 0 else 11
def wI (x y:Bs):Int:=if Op.bytesLess x y then -1 else if x=y then 0 else 1
def vE (x y:Int):Int:=if x < y then -1 else if x > y then 1 else 0
def uC : List Bs → List Bs → Int
 | [],_=>-1
 | _ :: _,[]=>1
 | x :: r,y :: r'=>if wI x y≠0 then wI x y else uC r r'
def vX (a b:Bs):Int:=if zK a && zK b then (if a=b then 0 else uC (zW a) (zW b)) else 0
def zDY (a b:Bs):Int:=if zK a && zK b then 0 else 11
def vO (a:Bs) (s:Int) (b:Bs) (t:Int):Int:=if a=b then vE s t else vX a b
structure zKL where
 text:Int
 leastN:Int
 mostN:Int
 leastM:Int
 mostM:Int
 even:Bool
 single:Bool
 wild:Bool
 deriving Inhabited
def rules : List zKL := [⟨0, 0, 0, 0, 0, false, false, false⟩, ⟨0, 1, 1000000, 0, 0, false, false, true⟩, ⟨1, 0, 0, 0, 0, false, false, false⟩, ⟨1, 0, 0, 0, 0, false, true, false⟩, ⟨0, 0, 65535, 0, 100000, false, true, false⟩,
 ⟨3,0,0,0,0,false,false,true⟩,⟨0,1,1000000,1,3,false,false,false⟩,⟨0,1,1000000,1,3,false,false,false⟩,⟨2,2,510,0,0,true,false,true⟩]
def zDf (r:zKL):List Value:=[.int .i64 r.text,.int .i64 r.leastN,.int .i64 r.mostN,.int .i64 r.leastM,.int .i64 r.mostM,.bool r.even,.bool r.single,.bool r.wild]
def zBT:List Value:=(rules.map zDf).flatten
def qT (E:Env) (H:Hp):Prop:=∃ cap wr,H (E.gl 75)=some (.row zBT cap wr)
theorem qT.mono {E : Env} {H H' : Hp} (h : qT E H) (hl : H.le H') : qT E H' := by
 obtain⟨cap,wr,h⟩:=h
 exact⟨cap,wr,hl _ _ h⟩
def zZ (x lo hi:Int):Bool:=decide (lo≤x) && decide (x≤hi)
def pH (s:Bs):Bool:=zBB s [42]
def jH (s:Bs):Bool:=!(!zZ s.length 1 40 || bI s 0 == 32 || bI s (s.length - 1) == 32) && zO (fun i=>!(!zZ (bI s i) 97 122 && !zZ (bI s i) 48 57 && bI s i != 32)) s.length
def uV (k:Int) (s:Bs):Bool:=if k=1 then zK s && !pH s else if k=2 then zK s else if k=3 then jH s else s == []
def wB (r:zKL) (d:xN):Bool:=!(!zZ d.n r.leastN r.mostN || !zZ d.m r.leastM r.mostM || (r.even && d.n.tmod 2 != 0)) && uV r.text d.text
def zBq (a b:xN):Int:=if wI a.text b.text≠0 then wI a.text b.text else if vE a.n b.n≠0 then vE a.n b.n else vE a.m b.m
def wQ (name : Bs) (type life : Int) (ds : List xN) : Bool :=
 zK name && zZ type 1 8 && zZ life 0 100000 && zZ ds.length 1 8 &&
 !((rules.getD type.toNat default).single && ds.length != 1) && !(pH name && !(rules.getD type.toNat default).wild) &&
 zO (fun i=>wB (rules.getD type.toNat default) (ds.getD i default) && !(decide (0 < i) && decide (zBq (ds.getD (i - 1) default) (ds.getD i default)≥0))) ds.length
section
variable (apex:Bs) (ss:List zF)
def yG (i:Nat):zF:=ss.getD i default
def vU : Bool := !(!zK apex || zBB apex [42] || decide (ss.length > 20000)) && zO (fun i => wQ (yG ss i).name (yG ss i).type (yG ss i).life (yG ss i).data && pV (yG ss i).name apex &&
 (i == 0 || !decide (vO (yG ss (i - 1)).name (yG ss (i - 1)).type (yG ss i).name (yG ss i).type≥0))) ss.length
def zGC (c : Nat → Int) : Nat → Nat → Nat → Nat
 | 0,i,_=>i
 | f + 1,i,j=>if i < j then (if c ((i + j) / 2) < 0 then zGC c f ((i + j) / 2 + 1) j else zGC c f i ((i + j) / 2)) else i
def zEx (n:Bs) (t:Int):Nat:=zGC (fun h=>vO (yG ss h).name (yG ss h).type n t) (ss.length + 1) 0 ss.length
def zAe (n:Bs) (t:Int):Bool:=decide (zEx ss n t < ss.length) && vO (yG ss (zEx ss n t)).name (yG ss (zEx ss n t)).type n t == 0
def zBx (t:Int) (at_:Bool):Bool:=if t=3∨t=6 then !at_ else if t=4∨t=7 then at_ else true
def qB:Bool:=zAe ss apex 4 && zAe ss apex 2 && zO (fun i=>zBx (yG ss i).type ((yG ss i).name == apex)) ss.length
def wY : Nat → List (Bs × Bool)
 | 0=>[]
 | k + 1=>if (yG ss k).type=2∧(yG ss k).name≠apex then xU (yG ss k).name true (wY k) else wY k
def uJ (cuts : List (Bs × Bool)) (cut n : Bs) : Bs :=
 let c:=if cut≠[]∧pV n cut=false then [] else cut
 if c = []∧(yK n cuts).getD false=true then n else c
def jC : Nat → Bs
 | 0=>[]
 | k + 1=>uJ (wY apex ss ss.length) (jC k) (yG ss k).name
def behind (i:Nat):Bs:=jC apex ss (i + 1)
def zCs:Bool:=zO (fun i=>(yG ss i).type != 3 || (!(decide (0 < i) && (yG ss (i - 1)).name == (yG ss i).name) && !(decide (i + 1 < ss.length) && (yG ss (i + 1)).name == (yG ss i).name && (yG ss (i + 1)).type != 8))) ss.length
def pY (b n:Bs) (t:Int):Bool:=if b = [] then t != 6 else if b=n then !(t != 2 && t != 6 && t != 8 && t != 1) else t == 1
def zHh:Bool:=zO (fun i=>pY (behind apex ss i) (yG ss i).name (yG ss i).type) ss.length
def zHx:Bool:=zO (fun i=>!((behind apex ss i != [] && ((yG ss i).type == 2 || (yG ss i).type == 1)) && decide ((yG ss i).sigs.length > 0))) ss.length
def zAd (gs : List kT) (i : Nat) : Bool :=
 let g:=gs.getD i default
 !(g.zone != apex || decide (g.key < 1) || decide (g.key > 1000000) || decide (g.alg < 1) || decide (g.alg > 3)) &&
 !(decide (g.from_ < 0) || decide (g.from_ > g.till) || decide (g.till > 20000000)) &&
 !(decide (0 < i) && (g.from_ != (gs.getD 0 default).from_ || g.till != (gs.getD 0 default).till || decide (g.key≤(gs.getD (i - 1) default).key)))
def uY (gs:List kT):Bool:=decide (gs.length≤6) && zO (zAd apex gs) gs.length
def zEv:Bool:=zO (fun i=>uY apex (yG ss i).sigs) ss.length
def xG:Bool:=vU apex ss && qB apex ss && zCs ss && zHh apex ss && zHx apex ss && zEv apex ss
end
def jJ (s : Bs) : Bool := zK s && (match (zW s).reverse with
 | []=>false
 | x :: _=>x == [42])
def kW (n:Int):Bool:=decide (n≥1) && decide (n≤1000000)
def jU {κ : Type} [DecidableEq κ] (f : Nat → κ) : Nat → List (κ × Bool)
 | 0=>[]
 | k + 1=>xU (f k) true (jU f k)
def jX (hs:List uP):Nat→List (Int × Bool):=jU fun k=>(hs.getD k default).addr
def zBN (hs : List uP) (i : Nat) : Bool :=
 let h:=hs.getD i default
 !(!zK h.name || jJ h.name || decide (h.owner < 0) || decide (h.owner≥32)) && !(!kW h.addr || (yK h.addr (jX hs i)).getD false)
def jN (hs:List uP):Bool:=decide (hs.length≤64) && zO (zBN hs) hs.length
abbrev zBY:=Int × Bs
def xO.key (p:xO):zBY:=(p.host,p.apex)
def qG (ps:List xO):Nat→List (zBY × Bool):=jU fun k=>(ps.getD k default).key
def zFo (ps:List xO):Nat→List (Bs × Bool):=jU fun k=>(ps.getD k default).apex
def zCG (hosts : Int) (ps : List xO) (i : Nat) : Bool :=
 let p:=ps.getD i default
 !(decide (p.host < 0) || decide (p.host≥hosts) || (yK p.key (qG ps i)).getD false || !xG p.apex p.sets)
def zAV (hosts:Int) (ps:List xO):Bool:=decide (ps.length≤4000) && zO (zCG hosts ps) ps.length && decide ((zFo ps ps.length).length≤500)
def zBz (name : Bs) (type life : Int) (ds : List xN) (hints : List Int) : Bool :=
 wQ name type life ds && type == 6 && name == [46] && decide (1≤hints.length) && decide (hints.length≤8) && zO (fun i=>kW (hints.getD i 0)) hints.length
def zAG (w:zCI):Bool:=jN w.hosts && zAV w.hosts.length w.zones && zBz w.aname w.atype w.alife w.adata w.hints
def zFa (p:xO):Bool:=p.sets.length == 0 && !(p.apex == [42] || zBB p.apex [42,46]) && zK p.apex
def zEy (hosts : Int) (ps : List xO) (i : Nat) : Bool :=
 let p:=ps.getD i default
 !(decide (p.host < 0) || decide (p.host≥hosts) || (yK p.key (qG ps i)).getD false || (!zFa p && !xG p.apex p.sets))
def zCm (ps:List xO) (hosts:Int):Bool:=decide (ps.length≤500) && zO (zEy hosts ps) ps.length
end Go.SL
