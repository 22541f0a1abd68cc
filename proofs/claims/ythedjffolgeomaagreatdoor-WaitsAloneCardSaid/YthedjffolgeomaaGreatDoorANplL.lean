/- The verification condition with a stack of codes: first-order steps for simp. -/
import Derived.Test.YthedjffolgeomaaGreatDoorANplI5
namespace Go.SL
open Go
inductive Item where
 | code (c:vM)
 | ops (l:List zA) (live:List Nat)
 | opd (p l:List yU) (live:List Nat)
 | blk (id:Nat)
 | goal (G:Fr→Hp→Prop)
mutual
def zS (E : Env) : List Item → Fr → Hp → (X → Fr → Hp → Prop) → Prop
 | [],fr,H,Q=>Q .nrm fr H
 | .code c :: k, fr, H, Q => vc E c fr H fun e fr' H' => match e with
  | .nrm=>zS E k fr' H' Q
  | e=>uU E k e fr' H' Q
 | .ops l live :: k,fr,H,Q=>kE E l fr H fun fr' H'=>zS E k (fr'.keep live) H' Q
 | .opd p l live :: k,fr,H,Q=>evd E p l fr H fun fr' H'=>zS E k (fr'.keep live) H' Q
 | .blk _ :: k,fr,H,Q=>zS E k fr H Q
 | .goal G :: _,fr,H,_=>G fr H
def uU (E : Env) : List Item → X → Fr → Hp → (X → Fr → Hp → Prop) → Prop
 | [],e,fr,H,Q=>Q e fr H
 | .blk id :: k,e,fr,H,Q=>if e = .exit id then zS E k fr H Q else uU E k e fr H Q
 | .code _ :: k,e,fr,H,Q=>uU E k e fr H Q
 | .ops _ _ :: k,e,fr,H,Q=>uU E k e fr H Q
 | .opd _ _ _ :: k,e,fr,H,Q=>uU E k e fr H Q
 | .goal _ :: k,e,fr,H,Q=>uU E k e fr H Q
end
section
variable {E:Env} {fr:Fr} {H:Hp} {Q:X→Fr→Hp→Prop} {k:List Item}
theorem yJP {c : vM} (h : zS E [.code c] fr H Q) : vc E c fr H Q := by
 simp only [zS] at h
 refine qQ (fun e fr H h=>?_) h
 cases e<;>simpa [uU] using h
theorem yTP:zS E [] fr H Q=Q .nrm fr H:=by simp [zS]
theorem yRU:zS E (.code .skip :: k) fr H Q=zS E k fr H Q:=by simp [zS,vc]
theorem yVf {l:List zA} {live:List Nat}:zS E (.code (.reg l live) :: k) fr H Q=zS E (.ops l live :: k) fr H Q:=by simp [zS,vc]
theorem yTf {l:List yU} {live:List Nat}:zS E (.code (.regd l live) :: k) fr H Q=zS E (.opd [] l live :: k) (fr.start (wV l)) H Q:=by simp [zS,vc]
theorem yTi {l:List yU} {mid live:List Nat} {last:zA}:zS E (.code (.regl l mid last live) :: k) fr H Q=zS E (.opd [] l mid :: .ops [last] live :: k) (fr.start (wV l)) H Q:=by simp [zS,vc,kE]
theorem zCm {x:yU} {p l:List yU} {live:List Nat}:zS E (.opd p (x :: l) live :: k) fr H Q=vI E x.o fr H (fun fr' H'=>pX E fr' H' x.ls p∧zS E (.opd (x :: p) l live :: k) fr' H' Q):=by simp [zS,evd]
theorem yGy {p:List yU} {live:List Nat}:zS E (.opd p [] live :: k) fr H Q=zS E k (fr.keep live) H Q:=by simp [zS,evd]
theorem yQh {p : List yU} : pX E fr H [] p := by
 induction p with
 | nil=>trivial
 | cons y p ih=>exact⟨by simp,ih⟩
theorem yQW {i : Nat} {d : Option Nat} {x : jS} {g : Option (Nat × Bool)} {p r : List yU} {live : List Nat} :
  zS E (.opd p (⟨i,⟨d,.sim x,g⟩,[]⟩ :: r) live :: k) fr H Q=(qA fr g∧(yY fr g=true→zBg E fr H x)∧zS E (.opd (⟨i,⟨d,.sim x,g⟩,[]⟩ :: p) r live :: k) (setD fr d ⟨yY fr g,xN E fr H x⟩) H Q):=by
 simp [zS,evd,vI,yQh]
theorem yUF {a b : vM} : zS E (.code (.seq a b) :: k) fr H Q = zS E (.code a :: .code b :: k) fr H Q := by
 simp only [zS,vc]
 congr 1
 funext e fr' H'
 cases e<;>simp [uU]
theorem yOY {id : Nat} {c : vM} : zS E (.code (.block id c) :: k) fr H Q = zS E (.code c :: .blk id :: k) fr H Q := by
 simp only [zS,vc]
 congr 1
 funext e fr' H'
 cases e<;>simp [uU]
theorem yRg {id:Nat}:zS E (.code (.exit id) :: k) fr H Q=uU E k (.exit id) fr H Q:=by simp [zS,vc]
theorem yUL:zS E (.code .ret :: k) fr H Q=uU E k .ret fr H Q:=by simp [zS,vc]
theorem yTF {id:Nat}:zS E (.blk id :: k) fr H Q=zS E k fr H Q:=by simp [zS]
theorem ySt {G:Fr→Hp→Prop}:zS E (.goal G :: k) fr H Q=G fr H:=by simp [zS]
theorem yGK {live:List Nat}:zS E (.ops [] live :: k) fr H Q=zS E k (fr.keep live) H Q:=by simp [zS,kE]
theorem yTO {e:X}:uU E [] e fr H Q=Q e fr H:=by simp [uU]
theorem yQU {e:X} {c:vM}:uU E (.code c :: k) e fr H Q=uU E k e fr H Q:=by simp [uU]
theorem yTV {e:X} {l:List zA} {live:List Nat}:uU E (.ops l live :: k) e fr H Q=uU E k e fr H Q:=by simp [uU]
theorem yUK {e:X} {p l:List yU} {live:List Nat}:uU E (.opd p l live :: k) e fr H Q=uU E k e fr H Q:=by simp [uU]
theorem yQT {e:X} {G:Fr→Hp→Prop}:uU E (.goal G :: k) e fr H Q=uU E k e fr H Q:=by simp [uU]
theorem zOc {i j:Nat}:uU E (.blk i :: k) (.exit j) fr H Q=if j=i then zS E k fr H Q else uU E k (.exit j) fr H Q:=by simp [uU]
theorem zSH {i:Nat}:uU E (.blk i :: k) .ret fr H Q=uU E k .ret fr H Q:=by simp [uU]
theorem zSw {c : Arg} {x y : vM} : zS E (.code (.cond c x y) :: k) fr H Q = (vok fr c ∧ (match vo E fr c with
  | .bool b=>(b=true→zS E (.code x :: k) fr H Q)∧(b=false→zS E (.code y :: k) fr H Q)
  | _=>False)):=by
 simp only [zS,vc]
 congr 1
theorem zIs {live : List Nat} {c : vM} (I : Nat → Fr → Hp → Prop) (m0 : Nat) (h0 : I m0 (fr.keep live) H)
  (h:∀ m fr' H',I m fr' H'→zS E (.code c :: .goal (fun fr'' H''=>∃ m',m' < m∧I m' (fr''.keep live) H'') :: k) fr' H' Q) :
  zS E (.code (.loop live c) :: k) fr H Q:=by
 simp only [zS,vc]
 refine⟨I,⟨m0,h0⟩,fun m fr' H' hi=>?_⟩
 have:=h m fr' H' hi
 simp only [zS] at this
 refine qQ (fun e fr H h=>?_) this
 cases e<;>simpa [uU] using h
theorem yTN {d : Option Nat} {x : jS} {g : Option (Nat × Bool)} {r : List zA} {live : List Nat} :
  zS E (.ops (⟨d,.sim x,g⟩ :: r) live :: k) fr H Q=(qA fr g∧(yY fr g=true→zBg E fr H x)∧zS E (.ops r live :: k) (setD fr d ⟨yY fr g,xN E fr H x⟩) H Q):=by simp [zS,kE,vI]
theorem ySJ {d : Option Nat} {x : jS} {r : List zA} {live : List Nat} :
  zS E (.ops (⟨d,.sim x,none⟩ :: r) live :: k) fr H Q=(zBg E fr H x∧zS E (.ops r live :: k) (setD fr d ⟨true,xN E fr H x⟩) H Q):=by simp [zS,kE,vI,qA,yY]
theorem zE {d : Option Nat} {f : Nat} {args : List Arg} {g : Option (Nat × Bool)} {r : List zA} {live : List Nat} (v : Value) (h0 : qA fr g)
  (h1:yY fr g=true→kA fr args∧yB E f (args.map (vo E fr)) H v) (h:zS E (.ops r live :: k) (setD fr d ⟨yY fr g,.val v⟩) H Q) :
  zS E (.ops (⟨d,.callp f args,g⟩ :: r) live :: k) fr H Q:=by
 simp only [zS,kE,vI]
 refine⟨h0,v,h1,?_⟩
 simpa [zS] using h
theorem zM {d : Option Nat} {f : Nat} {args : List Arg} {r : List zA} {live : List Nat} {R : Value → Hp → Prop} (h0 : kA fr args) (h1 : Fn E.P (E.fn f) (args.map (vo E fr)) H R)
  (h:∀ v H',R v H'→zS E (.ops r live :: k) (setD fr d ⟨true,.val v⟩) H' Q) :
  zS E (.ops (⟨d,.call f args,none⟩ :: r) live :: k) fr H Q:=by
 simp only [zS,kE,vI,qA,yY,xU]
 refine⟨trivial,fun _=>⟨h0,R,h1,fun v H' hr=>?_⟩,fun e=>by cases e⟩
 simpa [zS] using h v H' hr
theorem xA {d : Option Nat} {x : Arg} {args : List Arg} {r : List zA} {live : List Nat} {R : Value → Hp → Prop} (h0 : vok fr x) (h0' : kA fr args) (h1 : FnV E (vo E fr x) (args.map (vo E fr)) H R)
  (h:∀ v H',R v H'→zS E (.ops r live :: k) (setD fr d ⟨true,.val v⟩) H' Q) :
  zS E (.ops (⟨d,.callv x args,none⟩ :: r) live :: k) fr H Q:=by
 simp only [zS,kE,vI,qA,yY,xU]
 refine⟨trivial,fun _=>⟨h0,h0',R,h1,fun v H' hr=>?_⟩,fun e=>by cases e⟩
 simpa [zS] using h v H' hr
theorem yUQ (a b:Bool):(bif a then true else b)=(a || b):=by cases a<;>rfl
theorem ySe (a b:Bool):(bif a then b else false)=(a && b):=by cases a<;>rfl
theorem yGP (a:Bool):(a == false) = !a:=by cases a<;>rfl
theorem yJf (a:Bool):(a == true)=a:=by cases a<;>rfl
end
abbrev Js (d:Nat) (x:jS):zA:=⟨some d,.sim x,none⟩
abbrev Jt (d:Nat) (x:jS) (g:Nat):zA:=⟨some d,.sim x,some (g,true)⟩
abbrev Jn (d:Nat) (x:jS) (g:Nat):zA:=⟨some d,.sim x,some (g,false)⟩
abbrev Jm (d s:Nat):zA:=⟨some d,.sim (.mov (.t s)),none⟩
abbrev Jc (d:Nat) (v:Value):zA:=⟨some d,.sim (.mov (.c v)),none⟩
abbrev Jf (d k s:Nat):zA:=⟨some d,.sim (.fld k (.t s)),none⟩
abbrev Jl (d s:Nat):zA:=⟨some d,.sim (.ld none (.t s)),none⟩
abbrev Jk (d n s:Nat):zA:=⟨some d,.sim (.ld (some n) (.t s)),none⟩
abbrev Jp (d f:Nat) (a:List Arg):zA:=⟨some d,.callp f a,none⟩
abbrev Jx (d f:Nat) (a:List Arg):zA:=⟨some d,.call f a,none⟩
abbrev Jw (k a b:Nat):zA:=⟨none,.st k (.t a) (.t b),none⟩
abbrev Ji (d k a b:Nat):zA:=⟨some d,.sim (.idx k (.t a) (.t b)),none⟩
abbrev Je (d s:Nat):zA:=⟨some d,.sim (.len false (.t s)),none⟩
abbrev Ja (d a b:Nat):zA:=⟨some d,.sim (.pick (.t a) (.t b) (.c (.bool false))),none⟩
abbrev Jr (d a b:Nat):zA:=⟨some d,.sim (.pick (.t a) (.c (.bool true)) (.t b)),none⟩
abbrev Ju (d s g:Nat):zA:=⟨some d,.sim (.mov (.t s)),some (g,true)⟩
abbrev Jv (d s g:Nat):zA:=⟨some d,.sim (.mov (.t s)),some (g,false)⟩
abbrev Kf (d k s g:Nat):zA:=⟨some d,.sim (.fld k (.t s)),some (g,true)⟩
abbrev Kg (d k s g:Nat):zA:=⟨some d,.sim (.fld k (.t s)),some (g,false)⟩
abbrev Kl (d s g:Nat):zA:=⟨some d,.sim (.ld none (.t s)),some (g,true)⟩
abbrev Km (d s g:Nat):zA:=⟨some d,.sim (.ld none (.t s)),some (g,false)⟩
abbrev Kb (d:Nat) (o:BinOp) (a:Nat) (n:Int):zA:=⟨some d,.sim (.bin o (.t a) (.c (.int .i64 n))),none⟩
abbrev Kc (d:Nat) (o:BinOp) (a b:Nat):zA:=⟨some d,.sim (.bin o (.t a) (.t b)),none⟩
abbrev Ke (d k s:Nat):zA:=⟨some d,.sim (.ext k (.t s)),none⟩
abbrev Kx (d s:Nat):zA:=⟨some d,.sim (.box (.t s)),none⟩
abbrev Kn (d s:Nat):zA:=⟨some d,.sim (.not (.t s)),none⟩
abbrev Jz (r:List zA) (l:List Nat) (c:vM):vM:=.seq (.reg r l) c
end Go.SL
namespace Go.SL
open Go
def yJz : List zA := [
 Kx 1 0,Jc 2 (.bool false)]
def yMs : List zA := [
 Jf 10 8 1,Jl 11 10,Kb 12 .lss 11 1,Jm 13 12,Kg 14 8 1 13,Km 15 14 13,Jn 16 (.bin .gtr (.t 15) (.c (.int .i64 10000000))) 13,Jr 17 13 16,Jm 18 17,Kg 19 7 1 18,Km 20 19 18,Jn 21 (.bin .lss (.t 20) (.c (.int .i64 0))) 18,Jr 22 18 21,Jm 23 22,Kg 24 7 1 23,Km 25 24 23,Jn 26 (.bin .gtr (.t 25) (.c (.int .i64 1000))) 23,Jr 27 23 26,Jm 28 27,Kg 29 1 1 28,Km 30 29 28,Jn 31 (.len false (.t 30)) 28,Jn 32 (.bin .gtr (.t 31) (.c (.int .i64 4000))) 28,Jr 33 28 32]
def yPn : List zA := [
 Jc 2 (.bool false)]
def yLQ : List zA := [
 Jf 34 0 1,Jl 35 34,Jf 36 2 1,Jk 37 4 36,Jf 38 6 1,Jl 39 38,Js 40 (.bld [.slice none 0 0,.slice none 0 0,.string ⟨#[]⟩,.int .i64 0,.int .i64 0,.slice none 0 0,.slice none 0 0] [(0,1,.t 35),(2,4,.t 37),(6,1,.t 39)]),Jp 41 14 [.t 40],Kn 42 41]
def yKa : List zA := [
 Jc 2 (.bool false)]
def yOm : List zA := [
 ⟨some 43,.mkmap none,none⟩,Jm 3 43]
def yLz : List zA := [
 Jf 44 1 1,Jl 45 44,Je 46 45,Jc 47 (.int .i64 0)]
def yMf : List zA := [
 Kc 48 .lss 47 46]
def yNI : List zA := [
 Ji 49 5 45 47,Jk 50 5 49,Js 5 (.new [.int .i64 0,.int .i64 0,.int .i64 0,.string ⟨#[]⟩,.slice none 0 0]),Jw 5 5 50]
def yPA : List zA := [
 Jf 51 0 5,Jl 52 51,Kb 53 .lss 52 0,Jm 54 53,Kg 55 0 5 54,Km 56 55 54,Kg 57 0 1 54,Km 58 57 54,Jn 59 (.len false (.t 58)) 54,Jn 60 (.bin .geq (.t 56) (.t 59)) 54,Jr 61 54 60,Jm 62 61,Kg 63 1 5 62,Km 64 63 62,Jn 65 (.bin .lss (.t 64) (.c (.int .i64 0))) 62,Jr 66 62 65,Jm 67 66,Kg 68 1 5 67,Km 69 68 67,Kg 70 2 5 67,Km 71 70 67,Jn 72 (.bin .geq (.t 69) (.t 71)) 67,Jr 73 67 72,Jm 74 73,Kg 75 2 5 74,Km 76 75 74,Kg 77 8 1 74,Km 78 77 74,Jn 79 (.bin .gtr (.t 76) (.t 78)) 74,Jr 80 74 79]
def zZv : List zA := [
 Jc 2 (.bool false)]
def yGk : List zA := [
 Jf 81 3 5,Jk 82 2 81,Jp 83 43 [.t 82],Kn 84 83]
def yFs : List zA := [
 Jc 2 (.bool false)]
def zTr : List zA := [
 Jf 85 0 5,Jl 86 85,Jf 87 3 5,Jf 88 0 87,Jl 89 88,Js 90 (.bld [.int .i64 0,.string ⟨#[]⟩] [(0,1,.t 86),(1,1,.t 89)]),Js 6 (.new [.int .i64 0,.string ⟨#[]⟩]),Jw 2 6 90]
def yFw : List zA := [
 Jm 91 3,Jk 92 2 6,Jf 94 1 5,Jl 95 94,Jf 96 2 5,Jl 97 96,Js 98 (.bld [.int .i64 0,.int .i64 0] [(0,1,.t 95),(1,1,.t 97)]),
 ⟨some 99,.mksl 2 1 [.int .i64 0,.int .i64 0] [(0,2,.t 98)],none⟩,
 ⟨some 100,.ment true [.i,.s] (.slice none 0 0) (.t 91) (.t 92),none⟩,Ke 93 0 100,
 ⟨some 101,.app 2 16 [.int .i64 0,.int .i64 0] (.t 93) (.t 99),none⟩,Ke 102 1 100,
 ⟨none,.est (.t 91) (.t 102) (.t 101),none⟩]
def zZe : List zA := [
 Kb 103 .add 47 1,Jm 47 103]
def zUb : List zA := [
 Jm 104 3,
 ⟨some 105,.rng (.t 104),none⟩]
def yCX : List zA := [
 ⟨some 106,.nxt (.t 105),none⟩,Ke 107 0 106]
def zZR : List zA := [
 ⟨some 108,.ent (.t 105),none⟩,Ke 109 1 108,Jm 8 109]
def yFa : List zA := [
 Jm 110 8,Jx 111 87 [.t 110,.f 121]]
def zWg : List zA := [
 Jc 9 (.int .i64 1)]
def zVx : List zA := [
 Jm 112 9,Jm 113 8,Je 114 113,Kc 115 .lss 112 114]
def zVT : List yU := [
 ⟨0,Jm 118 8,[]⟩,
 ⟨1,Jm 119 9,[]⟩,
 ⟨2,Ji 120 2 118 119,[]⟩,
 ⟨3,Jf 121 0 120,[]⟩,
 ⟨4,Jl 122 121,[]⟩,
 ⟨5,Jm 123 8,[]⟩,
 ⟨6,Jm 124 9,[]⟩,
 ⟨7,Kb 125 .sub 124 1,[]⟩,
 ⟨8,Ji 126 2 123 125,[]⟩,
 ⟨9,Jf 127 1 126,[]⟩,
 ⟨10,Jl 128 127,[]⟩,
 ⟨11,Kc 129 .lss 122 128,[]⟩]
def zTR : List zA := [
 Jc 2 (.bool false)]
def yGg : List zA := [
 Jm 116 9,Kb 117 .add 116 1,Jm 9 117]
def yEb : List zA := [
 Jf 130 1 1,Jl 131 130,Jx 132 119 [.t 131,.f 120],Je 133 132,Kb 134 .leq 133 500,Jm 2 134]
def yGN : zI := ⟨135, [.slot 2],
  (Jz yJz [1] (.seq (Jz yMs [1,33] (.cond (.t 33) (Jz yPn [2] .ret) .skip)) (.seq (Jz yLQ [1,42] (.cond (.t 42) (Jz yKa [2] .ret) .skip)) (Jz yOm [1,3] (.seq (Jz yLz [1,3,45,46,47] (.block 0 (.loop [1,3,45,46,47] (Jz yMf [1,3,45,46,47,48] (.seq (.cond (.t 48) .skip (.exit 0)) (.seq (.block 1 (Jz yNI [1,3,5,45,46,47] (.seq (Jz yPA [1,3,5,45,46,47,80] (.cond (.t 80) (Jz zZv [2] .ret) .skip)) (.seq (Jz yGk [1,3,5,45,46,47,84] (.cond (.t 84) (Jz yFs [2] .ret) .skip)) (Jz zTr [1,3,5,6,45,46,47] (.reg yFw [1,3,45,46,47])))))) (.reg zZe [1,3,45,46,47]))))))) (.seq (Jz zUb [1,105] (.block 2 (.loop [1,105] (Jz yCX [1,105,107] (.seq (.cond (.t 107) .skip (.exit 2)) (.block 3 (Jz zZR [1,8,105] (Jz yFa [1,8,105] (Jz zWg [1,8,9,105] (.block 4 (.loop [1,8,9,105] (.seq (Jz zVx [1,8,9,105,115] (.cond (.t 115) .skip (.exit 4))) (.seq (.block 5 (.seq (.regd zVT [1,8,9,105,129]) (.cond (.t 129) (Jz zTR [2] .ret) .skip))) (.reg yGg [1,8,9,105])))))))))))))) (Jz yEb [2] .ret)))))))⟩
def yDV : List zA := [
 Kx 2 0,Kx 3 1,Jc 4 (.int .i64 0)]
def zUh : List zA := [
 Jf 5 0 2,Jl 6 5,Jf 7 0 3,Jl 8 7,Jp 9 89 [.t 6,.t 8],Jm 4 9]
def zMd : zI := ⟨10, [.slot 4],
  (Jz yDV [2,3] (Jz zUh [4] .ret))⟩
def zJV : List zA := [
 Jm 10 1,Kb 11 .add 10 1,Jm 8 11]
def zJQ : List zA := [
 Jm 12 8,Jm 13 2,Kc 14 .lss 12 13]
def zJD : List zA := [
 Jm 17 8,Jm 9 17]
def zKy : List yU := [
 ⟨0,Jm 18 9,[]⟩,
 ⟨1,Jm 19 1,[]⟩,
 ⟨2,Kc 20 .gtr 18 19,[]⟩,
 ⟨3,Jm 21 20,[]⟩,
 ⟨4,Ju 22 3 21,[]⟩,
 ⟨5,Ju 23 0 21,[]⟩,
 ⟨6,Ju 24 9 21,[]⟩,
 ⟨7,Jt 25 (.idx 2 (.t 23) (.t 24)) 21,[]⟩,
 ⟨8,Jt 26 (.ld (some 2) (.t 25)) 21,[]⟩,
 ⟨9,Ju 27 0 21,[]⟩,
 ⟨10,Ju 28 9 21,[]⟩,
 ⟨11,Jt 29 (.bin .sub (.t 28) (.c (.int .i64 1))) 21,[]⟩,
 ⟨12,Jt 30 (.idx 2 (.t 27) (.t 29)) 21,[]⟩,
 ⟨13,Jt 31 (.ld (some 2) (.t 30)) 21,[]⟩,
 ⟨14,⟨some 32,.callv (.t 22) [.t 26,.t 31],(some (21,true))⟩,[]⟩,
 ⟨15,Jt 33 (.bin .lss (.t 32) (.c (.int .i64 0))) 21,[]⟩,
 ⟨16,Ja 34 21 33,[]⟩]
def zJX : List yU := [
 ⟨0,Jm 37 0,[]⟩,
 ⟨1,Jm 38 9,[]⟩,
 ⟨2,Jm 39 0,[]⟩,
 ⟨3,Jm 40 9,[]⟩,
 ⟨4,Kb 41 .sub 40 1,[]⟩,
 ⟨5,Jm 42 0,[]⟩,
 ⟨6,Jm 43 9,[]⟩,
 ⟨7,Kb 44 .sub 43 1,[]⟩,
 ⟨8,Ji 45 2 42 44,[]⟩,
 ⟨9,Jk 46 2 45,[]⟩,
 ⟨10,Jm 47 0,[]⟩,
 ⟨11,Jm 48 9,[]⟩,
 ⟨12,Ji 49 2 47 48,[]⟩,
 ⟨13,Jk 50 2 49,[]⟩,
 ⟨14,Ji 51 2 37 38,[]⟩,
 ⟨15,Jw 2 51 46,[2,3,4]⟩,
 ⟨16,Ji 52 2 39 41,[]⟩,
 ⟨17,Jw 2 52 50,[]⟩]
def zJU : List zA := [
 Jm 35 9,Kb 36 .sub 35 1,Jm 9 36]
def zJG : List zA := [
 Jm 15 8,Kb 16 .add 15 1,Jm 8 16]
def zHm : zI := ⟨53, [],
  (Jz zJV [0,1,2,3,8] (.block 0 (.loop [0,1,2,3,8] (.seq (Jz zJQ [0,1,2,3,8,14] (.cond (.t 14) .skip (.exit 0))) (.seq (.block 1 (Jz zJD [0,1,2,3,8,9] (.block 2 (.loop [0,1,2,3,8,9] (.seq (.seq (.regd zKy [0,1,2,3,8,9,34]) (.cond (.t 34) .skip (.exit 2))) (.seq (.block 3 (.regd zJX [0,1,2,3,8,9])) (.reg zJU [0,1,2,3,8,9]))))))) (.reg zJG [0,1,2,3,8]))))))⟩
def zXy : List zA := [
 Jc 2 (.int .i64 0)]
def zWB : List zA := [
 Jm 3 0,Js 4 (.bin .geq (.t 3) (.c (.int .u64 4294967296)))]
def zVG : List zA := [
 Jm 5 0,Js 6 (.bin .shr (.t 5) (.c (.int .u64 32))),Jm 0 6]
def zVC : List zA := [
 Jc 2 (.int .i64 32)]
def yBW : List zA := [
 Jm 7 0,Js 8 (.bin .geq (.t 7) (.c (.int .u64 65536)))]
def yCK : List zA := [
 Jm 9 0,Js 10 (.bin .shr (.t 9) (.c (.int .u64 16))),Jm 0 10]
def zYo : List zA := [
 Jm 11 2,Kb 12 .add 11 16,Jm 2 12]
def zYd : List zA := [
 Jm 13 0,Js 14 (.bin .geq (.t 13) (.c (.int .u64 256)))]
def zZO : List zA := [
 Jm 15 0,Js 16 (.bin .shr (.t 15) (.c (.int .u64 8))),Jm 0 16]
def yFY : List zA := [
 Jm 17 2,Kb 18 .add 17 8,Jm 2 18]
def zNY : List zA := [
 Jm 19 2,Jm 20 0,Js 21 (.cvi .u8 (.t 20)),Js 22 (.idxs (.c (.string ⟨#[0,1,2,2,3,3,3,3,4,4,4,4,4,4,4,4,5,5,5,5,5,5,5,5,5,5,5,5,5,5,5,5,6,6,6,6,6,6,6,6,6,6,6,6,6,6,6,6,6,6,6,6,6,6,6,6,6,6,6,6,6,6,6,6,7,7,7,7,7,7,7,7,7,7,7,7,7,7,7,7,7,7,7,7,7,7,7,7,7,7,7,7,7,7,7,7,7,7,7,7,7,7,7,7,7,7,7,7,7,7,7,7,7,7,7,7,7,7,7,7,7,7,7,7,7,7,7,7,8,8,8,8,8,8,8,8,8,8,8,8,8,8,8,8,8,8,8,8,8,8,8,8,8,8,8,8,8,8,8,8,8,8,8,8,8,8,8,8,8,8,8,8,8,8,8,8,8,8,8,8,8,8,8,8,8,8,8,8,8,8,8,8,8,8,8,8,8,8,8,8,8,8,8,8,8,8,8,8,8,8,8,8,8,8,8,8,8,8,8,8,8,8,8,8,8,8,8,8,8,8,8,8,8,8,8,8,8,8,8,8,8,8,8,8,8,8,8,8,8,8,8,8,8,8,8,8]⟩)) (.t 21)),Js 23 (.cvi .i64 (.t 22)),Kc 24 .add 19 23,Jm 2 24]
def zNe : zI := ⟨25, [.slot 2],
  (Jz zXy [0,2] (.seq (Jz zWB [0,2,4] (.cond (.t 4) (Jz zVG [0] (.reg zVC [0,2])) .skip)) (.seq (Jz yBW [0,2,8] (.cond (.t 8) (Jz yCK [0,2] (.reg zYo [0,2])) .skip)) (.seq (Jz zYd [0,2,14] (.cond (.t 14) (Jz zZO [0,2] (.reg yFY [0,2])) .skip)) (Jz zNY [2] .ret)))))⟩
end Go.SL
/- Data in memory: strings, slices of structs, maps; how they stand in rows. -/
namespace Go.SL
open Go
abbrev Bs:=List UInt8
abbrev S (l:Bs):Value:=.string ⟨l.toArray⟩
theorem yVm (l:Bs):(⟨l.toArray⟩:ByteArray).size=l.length:=by simp [ByteArray.size]
theorem yVV (l:Bs):(⟨l.toArray⟩:ByteArray).data.toList=l:=by simp
theorem yNf (l : Bs) (i j : Nat) : (⟨l.toArray⟩ : ByteArray).extract i j = ⟨((l.drop i).take (j - i)).toArray⟩ := by
 apply ByteArray.ext
 simp [ByteArray.data_extract]
theorem yTz (b:ByteArray):b = ⟨b.data.toList.toArray⟩:=by cases b; simp
theorem yUc (l:Bs):strOf (S l)=l:=by simp [strOf]
theorem zK {vs r : List Value} {o sz j : Nat} (h : (vs.drop o).take sz = r) (hj : j < sz) : vs.getD (o + j) undef = r.getD j undef := by
 subst h
 simp only [List.getD_eq_getElem?_getD,List.getElem?_take,hj,if_true,List.getElem?_drop]
theorem jC {vs r : List Value} {o sz : Nat} (h : (vs.drop o).take sz = r) (j m : Nat) (hj : j + m ≤ sz) : (vs.drop (o + j)).take m = (r.drop j).take m := by
 subst h
 rw [List.drop_take,List.take_take,List.drop_drop,Nat.min_eq_left (by omega)]
def zG (H : Hp) (sz : Nat) (v : Value) (n : Nat) (row : Nat → List Value) : Prop :=
 ∃ a cap, v = .slice a n cap ∧ (a = none → n = 0) ∧
  (0 < n→∃ b o vs c wr,a=some ⟨b,o,none⟩∧H b=some (.row vs c wr)∧∀ i,i < n→o + i * sz + sz≤vs.length∧(vs.drop (o + i * sz)).take sz=row i)
theorem zG.mono {H H' : Hp} {sz : Nat} {v : Value} {n : Nat} {row : Nat → List Value} (h : zG H sz v n row) (hl : H.le H') : zG H' sz v n row := by
 obtain⟨a,cap,hv,hs,hr⟩:=h
 refine⟨a,cap,hv,hs,fun hn=>?_⟩
 obtain⟨b,o,vs,c,wr,ha,hb,hi⟩:=hr hn
 exact⟨b,o,vs,c,wr,ha,hl _ _ hb,hi⟩
theorem zG.row_congr {H : Hp} {sz : Nat} {v : Value} {n : Nat} {row row' : Nat → List Value} (h : zG H sz v n row) (he : ∀ i, i < n → row i = row' i) : zG H sz v n row' := by
 obtain⟨a,cap,hv,hs,hr⟩:=h
 refine⟨a,cap,hv,hs,fun hn=>?_⟩
 obtain⟨b,o,vs,c,wr,ha,hb,hi⟩:=hr hn
 exact⟨b,o,vs,c,wr,ha,hb,fun i h=>⟨(hi i h).1,(hi i h).2.trans (he i h)⟩⟩
theorem zG.nil {H:Hp} {sz:Nat} {row:Nat→List Value}:zG H sz (.slice none 0 0) 0 row:=⟨none,0,rfl,(fun _=>rfl),fun h=>absurd h (Nat.lt_irrefl 0)⟩
structure xO where
 text:Bs
 n:Int
 m:Int
 deriving DecidableEq,Inhabited
structure kI where
 zone:Bs
 key:Int
 alg:Int
 from_:Int
 till:Int
 sum:Int
 deriving DecidableEq,Inhabited
structure zF where
 name:Bs
 type:Int
 life:Int
 data:List xO
 sigs:List kI
 deriving DecidableEq,Inhabited
structure wG where
 host:Int
 apex:Bs
 sets:List zF
 deriving DecidableEq,Inhabited
structure qT where
 name:Bs
 addr:Int
 owner:Int
 deriving DecidableEq,Inhabited
structure zGG where
 hosts:List qT
 zones:List wG
 aname:Bs
 atype:Int
 alife:Int
 adata:List xO
 hints:List Int
 deriving DecidableEq,Inhabited
def pR (ds:List xO) (i:Nat):List Value:=[S (ds.getD i default).text,.int .i64 (ds.getD i default).n,.int .i64 (ds.getD i default).m]
def zAf (gs:List kI) (i:Nat):List Value:=[S (gs.getD i default).zone,.int .i64 (gs.getD i default).key,.int .i64 (gs.getD i default).alg,.int .i64 (gs.getD i default).from_,.int .i64 (gs.getD i default).till,.int .u64 (gs.getD i default).sum]
def zHb (hs:List qT) (i:Nat):List Value:=[S (hs.getD i default).name,.int .i64 (hs.getD i default).addr,.int .i64 (hs.getD i default).owner]
def vP (ns:List Int) (i:Nat):List Value:=[.int .i64 (ns.getD i 0)]
def xD (ss:List zF) (d g:Nat→Value) (i:Nat):List Value:=[S (ss.getD i default).name,.int .i64 (ss.getD i default).type,.int .i64 (ss.getD i default).life,d i,g i]
def zDn (ps:List wG) (z:Nat→Value) (i:Nat):List Value:=[.int .i64 (ps.getD i default).host,S (ps.getD i default).apex,z i]
def xF (H:Hp) (v:Value) (ds:List xO):Prop:=zG H 3 v ds.length (pR ds)
def xL (H:Hp) (v:Value) (gs:List kI):Prop:=zG H 6 v gs.length (zAf gs)
def qN (H:Hp) (v:Value) (hs:List qT):Prop:=zG H 3 v hs.length (zHb hs)
def wH (H:Hp) (v:Value) (ns:List Int):Prop:=zG H 1 v ns.length (vP ns)
def xT (H:Hp) (v:Value) (ss:List zF):Prop:=∃ d g,zG H 5 v ss.length (xD ss d g)∧∀ i,i < ss.length→xF H (d i) (ss.getD i default).data∧xL H (g i) (ss.getD i default).sigs
def pS (H:Hp) (v:Value) (ps:List wG):Prop:=∃ z,zG H 3 v ps.length (zDn ps z)∧∀ i,i < ps.length→xT H (z i) (ps.getD i default).sets
section
variable {H H':Hp} {v:Value}
theorem xF.mono {ds:List xO} (h:xF H v ds) (hl:H.le H'):xF H' v ds:=zG.mono h hl
theorem xL.mono {gs:List kI} (h:xL H v gs) (hl:H.le H'):xL H' v gs:=zG.mono h hl
theorem qN.mono {hs:List qT} (h:qN H v hs) (hl:H.le H'):qN H' v hs:=zG.mono h hl
theorem wH.mono {ns:List Int} (h:wH H v ns) (hl:H.le H'):wH H' v ns:=zG.mono h hl
theorem xT.mono {ss : List zF} (h : xT H v ss) (hl : H.le H') : xT H' v ss := by
 obtain⟨d,g,h1,h2⟩:=h
 exact⟨d,g,h1.mono hl,fun i hi=>⟨(h2 i hi).1.mono hl,(h2 i hi).2.mono hl⟩⟩
theorem pS.mono {ps : List wG} (h : pS H v ps) (hl : H.le H') : pS H' v ps := by
 obtain⟨z,h1,h2⟩:=h
 exact⟨z,h1.mono hl,fun i hi=>(h2 i hi).mono hl⟩
end
theorem zJ {H:Hp} {b:Nat} (h:H b=none) (o:xI):H.le (H.put b o):=Hp.le.put h
theorem zHl (H : Hp) (b : Nat) (o o' : xI) : (H.put b o).put b o' = H.put b o' := by
 funext c
 simp only [Hp.put]
 split<;>rfl
theorem zH {H0 H : Hp} {b : Nat} (h : H0.le H) (hb : H0 b = none) (o : xI) : H0.le (H.put b o) := fun c p hc => by
 rw [Hp.put_ne]
 ·exact h c p hc
 ·rintro rfl; rw [hb] at hc; cases hc
def uI (H:Hp) (m:Nat) (l:List (Value × Value)):Prop:=∃ es clock,H m=some (.obj (.map es clock))∧es.toList.map (fun e=>(e.key,e.val))=l
section
variable {κ ν:Type} [DecidableEq κ]
def yI (k : κ) : List (κ × ν) → Option ν
 | []=>none
 | (k',v) :: r=>if k=k' then some v else yI k r
def xV (k : κ) (v : ν) : List (κ × ν) → List (κ × ν)
 | []=>[(k,v)]
 | (k',v') :: r=>if k=k' then (k,v) :: r else (k',v') :: xV k v r
theorem zAg (k k' : κ) (v : ν) (l : List (κ × ν)) : yI k' (xV k v l) = if k' = k then some v else yI k' l := by
 induction l with
 | nil=>simp [xV,yI]
 | cons e r ih =>
  obtain⟨j,u⟩:=e
  simp only [xV]
  by_cases h:k=j
  ·subst h
   by_cases h':k'=k
   ·simp [yI,h']
   ·simp [yI,h']
  ·simp only [if_neg h,yI,ih]
   by_cases h':k'=j
   ·subst h'
    simp [Ne.symm h]
   ·simp [h']
theorem zEo {ag : Bool} {ks : List Kd} {enc : κ → Value} {encv : ν → Value} (hk : ∀ a b, uX ag ks (enc a) (enc b) = some (decide (a = b))) (k : κ) :
  ∀ (es : List MapEntry) (l : List (κ × ν)) (i : Nat), es.map (fun e => (e.key, e.val)) = l.map (fun e => (enc e.1, encv e.2)) →
   (yI k l=none→uH ag ks (enc k) es i=some none) ∧
   (∀ v, yI k l = some v → ∃ j, i ≤ j ∧ uH ag ks (enc k) es i = some (some (j, encv v)) ∧
    ∀ (f:MapEntry→MapEntry) (u:ν),(∀ e,(f e).key=enc k∧(f e).val=encv u)→(es.modify (j - i) f).map (fun e=>(e.key,e.val))=(xV k u l).map (fun e=>(enc e.1,encv e.2)))
 | [],[],i,_=>⟨fun _=>rfl,fun v h=>by cases h⟩
 | [],_ :: _,i,h=>by simp at h
 | _ :: _,[],i,h=>by simp at h
 | e :: es, (k', u') :: l, i, h => by
  simp only [List.map_cons,List.cons.injEq,Prod.mk.injEq] at h
  obtain⟨⟨h1,h2⟩,h3⟩:=h
  have ih:=zEo hk k es l (i + 1) h3
  simp only [yI,uH,h1,hk,xV]
  by_cases hkk:k=k'
  ·subst hkk
   refine⟨fun h=>by simp at h,fun v hv=>⟨i,Nat.le_refl _,?_,fun f u hf=>?_⟩⟩
   ·simp only [if_true,Option.some.injEq] at hv
    subst hv
    simp [h2]
   ·simp [hf e,h3]
  ·simp only [hkk,if_false,decide_false]
   refine⟨ih.1,fun v hv=>?_⟩
   obtain⟨j,hj,hm,hmod⟩:=ih.2 v hv
   refine⟨j,by omega,hm,fun f u hf=>?_⟩
   have e1:j - i=(j - (i + 1)) + 1:=by omega
   rw [e1]
   simp only [List.modify_succ_cons,List.map_cons,hmod f u hf,h1,h2]
end
section
variable {E:Env} {fr:Fr} {H:Hp} {Q:X→Fr→Hp→Prop} {k:List Item} {κ ν:Type} [DecidableEq κ]
theorem zAd {d : Option Nat} {ag : Bool} {ks : List Kd} {zero : Value} {ok : Bool} {m x : Arg} {r : List zA} {live : List Nat} {enc : κ → Value} {encv : ν → Value} {l : List (κ × ν)} {b : Nat}
  (key:κ) (hk:∀ a b,uX ag ks (enc a) (enc b)=some (decide (a=b))) (hki:zBb ag ks (enc key)) (h1:vok fr m) (h2:vok fr x) (hm:vo E fr m = .map (some b)) (hx:vo E fr x=enc key)
  (hM:uI H b (l.map fun e=>(enc e.1,encv e.2)))
  (h:zS E (.ops r live :: k) (setD fr d ⟨true,.val (if ok then .tuple #[((yI key l).map encv).getD zero,.bool (yI key l).isSome] else ((yI key l).map encv).getD zero)⟩) H Q) :
  zS E (.ops (⟨d,.look ag ks zero ok m x,none⟩ :: r) live :: k) fr H Q:=by
 obtain⟨es,clock,hH,he⟩:=hM
 simp only [zS,kE,vI,qA,yY,xU] at h ⊢
 refine⟨trivial,fun _=>⟨h1,h2,by rw [hx]; exact hki,?_⟩,fun e=>by cases e⟩
 have hf:=zEo hk key es.toList l 0 he
 simp only [hm,hH,hx]
 cases hg:yI key l with
 | none =>
  rw [hf.1 hg]
  simpa [hg] using h
 | some v =>
  obtain⟨j,_,hj,_⟩:=hf.2 v hg
  rw [hj]
  simpa [hg] using h
theorem zBv {d : Option Nat} {ag : Bool} {ks : List Kd} {m x y : Arg} {r : List zA} {live : List Nat} {enc : κ → Value} {encv : ν → Value} {l : List (κ × ν)} {b : Nat}
  (key:κ) (val:ν) (hk:∀ a b,uX ag ks (enc a) (enc b)=some (decide (a=b))) (hki:zBb ag ks (enc key)) (h1:vok fr m) (h2:vok fr x) (h3:vok fr y) (hm:vo E fr m = .map (some b)) (hx:vo E fr x=enc key) (hy:vo E fr y=encv val)
  (hM:uI H b (l.map fun e=>(enc e.1,encv e.2)))
  (h:∀ o,(∀ H',uI (Hp.put H' b o) b ((xV key val l).map fun e=>(enc e.1,encv e.2)))→zS E (.ops r live :: k) (setD fr d ⟨true,.val undef⟩) (H.put b o) Q) :
  zS E (.ops (⟨d,.upd ag ks m x y,none⟩ :: r) live :: k) fr H Q:=by
 obtain⟨es,clock,hH,he⟩:=hM
 simp only [zS,kE,vI,qA,yY,xU] at h ⊢
 refine⟨trivial,fun _=>⟨h1,h2,h3,by rw [hx]; exact hki,?_⟩,fun e=>by cases e⟩
 have hf:=zEo hk key es.toList l 0 he
 simp only [hm,hH,hx,hy]
 cases hg:yI key l with
 | none =>
  rw [hf.1 hg]
  refine h _ fun H'=>⟨_,_,Hp.put_same ..,?_⟩
  have : xV key val l = l ++ [(key, val)] := by
   clear hf h he
   induction l with
   | nil=>rfl
   | cons e r ih =>
    obtain⟨k',u⟩:=e
    simp only [yI] at hg
    split at hg
    ·cases hg
    ·rename_i hne
     simp [xV,hne,ih hg]
  simp [this,he]
 | some v =>
  obtain⟨j,_,hj,hmod⟩:=hf.2 v hg
  rw [hj]
  refine h _ fun H'=>⟨_,_,Hp.put_same ..,?_⟩
  have:=hmod (fun e=>{ e with key:=enc key,val:=encv val }) val (fun e=>⟨rfl,rfl⟩)
  simpa using this
end
end Go.SL
/- What the functions compute: names, records, zones, worlds, in plain Lean. -/
namespace Go.SL
open Go
def zP (P : Nat → Bool) : Nat → Bool
 | 0=>true
 | n + 1=>zP P n && P n
theorem zY {P : Nat → Bool} {n k : Nat} (hk : k < n) (h : P k = false) : zP P n = false := by
 induction n with
 | zero=>omega
 | succ n ih =>
  simp only [zP]
  by_cases e:k=n
  ·subst e; simp [h]
  ·simp [ih (by omega)]
theorem yG {P : Nat → Bool} {n : Nat} : zP P n = true ↔ ∀ k, k < n → P k = true := by
 induction n with
 | zero=>simp [zP]
 | succ n ih =>
  simp only [zP,Bool.and_eq_true,ih]
  constructor
  ·rintro⟨h,hn⟩ k hk
   by_cases e:k=n
   ·subst e; exact hn
   ·exact h k (by omega)
  ·exact fun h=>⟨fun k hk=>h k (by omega),h n (by omega)⟩
theorem yJ {P:Nat→Bool} {n:Nat} (h:zP P n=true) (h':P n=true):zP P (n + 1)=true:=by simp [zP,h,h']
def wM (P : Nat → Bool) : Nat → Bool
 | 0=>false
 | n + 1=>wM P n || P n
def uP (c : UInt8) (l : Bs) : Nat → Option Nat
 | 0=>none
 | k + 1=>if l.getD k 0=c then some k else uP c l k
def lastIx (c:UInt8) (l:Bs):Option Nat:=uP c l l.length
theorem yIt {c : UInt8} {l : Bs} {k i : Nat} (h : uP c l k = some i) : i < k := by
 induction k with
 | zero=>cases h
 | succ k ih =>
  simp only [uP] at h
  split at h
  ·cases h; omega
  ·have:=ih h; omega
theorem uV {c:UInt8} {l:Bs} {i:Nat} (h:lastIx c l=some i):i < l.length:=yIt h
def ixI (o : Option Nat) : Int := match o with
 | none=>-1
 | some i=>i
def vA : Nat → Bs → List Bs
 | 0,_=>[]
 | n + 1, l => match lastIx 46 l with
  | none=>[l]
  | some i=>l.drop (i + 1) :: vA n (l.take i)
def zU (l:Bs):List Bs:=if l = [46] then [] else vA (l.length + 1) l
def bI (l:Bs) (i:Nat):Int:=(l.getD i 0).toNat
def okc (c:Int):Bool:=!((decide (c < 97) || decide (c > 122)) && (decide (c < 48) || decide (c > 57)) && (c != 45))
def vX (l:Bs):Bool:=!(decide ((l.length:Int) < 1) || decide ((l.length:Int) > 12) || bI l 0 == 45 || bI l (l.length - 1) == 45) && zP (fun i=>okc (bI l i)) l.length
def qE : List Bs → Nat → Bool → Bool
 | [],_,_=>true
 | x :: r,c,w=>if w || decide (c + 1 > 8) then false else if !(x == [42]) && !vX x then false else qE r (c + 1) (x == [42])
def zL (l:Bs):Bool:=l == [46] || (decide (l.length≤60) && qE (zU l) 0 false)
def zBU (s p:Bs):Bool:=decide (p.length≤s.length) && s.take p.length == p
def zBR (s p:Bs):Bool:=decide (p.length≤s.length) && s.drop (s.length - p.length) == p
def pY (s z:Bs):Bool:=zL s && zL z && (s == z || z == [46] || (decide (z.length < s.length) && zBR s z && bI s (s.length - z.length - 1) == 46))
def zGp (s z:Bs):Int:=if zL s && zL z then 0 else 11
def wJ (x y:Bs):Int:=if Op.bytesLess x y then -1 else if x=y then 0 else 1
def vC (x y:Int):Int:=if x < y then -1 else if x > y then 1 else 0
def uG : List Bs → List Bs → Int
 | [],_=>-1
 | _ :: _,[]=>1
 | x :: r,y :: r'=>if wJ x y≠0 then wJ x y else uG r r'
def uB (a b:Bs):Int:=if zL a && zL b then (if a=b then 0 else uG (zU a) (zU b)) else 0
def zDC (a b:Bs):Int:=if zL a && zL b then 0 else 11
def vS (a:Bs) (s:Int) (b:Bs) (t:Int):Int:=if a=b then vC s t else uB a b
structure zJy where
 text:Int
 leastN:Int
 mostN:Int
 leastM:Int
 mostM:Int
 even:Bool
 single:Bool
 wild:Bool
 deriving Inhabited
def rules : List zJy := [⟨0, 0, 0, 0, 0, false, false, false⟩, ⟨0, 1, 1000000, 0, 0, false, false, true⟩, ⟨1, 0, 0, 0, 0, false, false, false⟩, ⟨1, 0, 0, 0, 0, false, true, false⟩, ⟨0, 0, 65535, 0, 100000, false, true, false⟩,
 ⟨3,0,0,0,0,false,false,true⟩,⟨0,1,1000000,1,3,false,false,false⟩,⟨0,1,1000000,1,3,false,false,false⟩,⟨2,2,510,0,0,true,false,true⟩]
def zDd (r:zJy):List Value:=[.int .i64 r.text,.int .i64 r.leastN,.int .i64 r.mostN,.int .i64 r.leastM,.int .i64 r.mostM,.bool r.even,.bool r.single,.bool r.wild]
def zBM:List Value:=(rules.map zDd).flatten
def qU (E:Env) (H:Hp):Prop:=∃ cap wr,H (E.gl 75)=some (.row zBM cap wr)
theorem qU.mono {E : Env} {H H' : Hp} (h : qU E H) (hl : H.le H') : qU E H' := by
 obtain⟨cap,wr,h⟩:=h
 exact⟨cap,wr,hl _ _ h⟩
def zZ (x lo hi:Int):Bool:=decide (lo≤x) && decide (x≤hi)
def pL (s:Bs):Bool:=zBU s [42]
def kU (s:Bs):Bool:=!(!zZ s.length 1 40 || bI s 0 == 32 || bI s (s.length - 1) == 32) && zP (fun i=>!(!zZ (bI s i) 97 122 && !zZ (bI s i) 48 57 && bI s i != 32)) s.length
def qB (k:Int) (s:Bs):Bool:=if k=1 then zL s && !pL s else if k=2 then zL s else if k=3 then kU s else s == []
def xY (r:zJy) (d:xO):Bool:=!(!zZ d.n r.leastN r.mostN || !zZ d.m r.leastM r.mostM || (r.even && d.n.tmod 2 != 0)) && qB r.text d.text
def zBj (a b:xO):Int:=if wJ a.text b.text≠0 then wJ a.text b.text else if vC a.n b.n≠0 then vC a.n b.n else vC a.m b.m
def wK (name : Bs) (type life : Int) (ds : List xO) : Bool :=
 zL name && zZ type 1 8 && zZ life 0 100000 && zZ ds.length 1 8 &&
 !((rules.getD type.toNat default).single && ds.length != 1) && !(pL name && !(rules.getD type.toNat default).wild) &&
 zP (fun i=>xY (rules.getD type.toNat default) (ds.getD i default) && !(decide (0 < i) && decide (zBj (ds.getD (i - 1) default) (ds.getD i default)≥0))) ds.length
section
variable (apex:Bs) (ss:List zF)
def yF (i:Nat):zF:=ss.getD i default
def vQ : Bool := !(!zL apex || zBU apex [42] || decide (ss.length > 20000)) && zP (fun i => wK (yF ss i).name (yF ss i).type (yF ss i).life (yF ss i).data && pY (yF ss i).name apex &&
 (i == 0 || !decide (vS (yF ss (i - 1)).name (yF ss (i - 1)).type (yF ss i).name (yF ss i).type≥0))) ss.length
def zGy (c : Nat → Int) : Nat → Nat → Nat → Nat
 | 0,i,_=>i
 | f + 1,i,j=>if i < j then (if c ((i + j) / 2) < 0 then zGy c f ((i + j) / 2 + 1) j else zGy c f i ((i + j) / 2)) else i
def zEf (n:Bs) (t:Int):Nat:=zGy (fun h=>vS (yF ss h).name (yF ss h).type n t) (ss.length + 1) 0 ss.length
def zAa (n:Bs) (t:Int):Bool:=decide (zEf ss n t < ss.length) && vS (yF ss (zEf ss n t)).name (yF ss (zEf ss n t)).type n t == 0
def zBn (t:Int) (at_:Bool):Bool:=if t=3∨t=6 then !at_ else if t=4∨t=7 then at_ else true
def qF:Bool:=zAa ss apex 4 && zAa ss apex 2 && zP (fun i=>zBn (yF ss i).type ((yF ss i).name == apex)) ss.length
def wZ : Nat → List (Bs × Bool)
 | 0=>[]
 | k + 1=>if (yF ss k).type=2∧(yF ss k).name≠apex then xV (yF ss k).name true (wZ k) else wZ k
def uR (cuts : List (Bs × Bool)) (cut n : Bs) : Bs :=
 let c:=if cut≠[]∧pY n cut=false then [] else cut
 if c = []∧(yI n cuts).getD false=true then n else c
def kS : Nat → Bs
 | 0=>[]
 | k + 1=>uR (wZ apex ss ss.length) (kS k) (yF ss k).name
def behind (i:Nat):Bs:=kS apex ss (i + 1)
def zCd:Bool:=zP (fun i=>(yF ss i).type != 3 || (!(decide (0 < i) && (yF ss (i - 1)).name == (yF ss i).name) && !(decide (i + 1 < ss.length) && (yF ss (i + 1)).name == (yF ss i).name && (yF ss (i + 1)).type != 8))) ss.length
def kD (b n:Bs) (t:Int):Bool:=if b = [] then t != 6 else if b=n then !(t != 2 && t != 6 && t != 8 && t != 1) else t == 1
def zHr:Bool:=zP (fun i=>kD (behind apex ss i) (yF ss i).name (yF ss i).type) ss.length
def zHu:Bool:=zP (fun i=>!((behind apex ss i != [] && ((yF ss i).type == 2 || (yF ss i).type == 1)) && decide ((yF ss i).sigs.length > 0))) ss.length
def zAb (gs : List kI) (i : Nat) : Bool :=
 let g:=gs.getD i default
 !(g.zone != apex || decide (g.key < 1) || decide (g.key > 1000000) || decide (g.alg < 1) || decide (g.alg > 3)) &&
 !(decide (g.from_ < 0) || decide (g.from_ > g.till) || decide (g.till > 20000000)) &&
 !(decide (0 < i) && (g.from_ != (gs.getD 0 default).from_ || g.till != (gs.getD 0 default).till || decide (g.key≤(gs.getD (i - 1) default).key)))
def qC (gs:List kI):Bool:=decide (gs.length≤6) && zP (zAb apex gs) gs.length
def zEi:Bool:=zP (fun i=>qC apex (yF ss i).sigs) ss.length
def xB:Bool:=vQ apex ss && qF apex ss && zCd ss && zHr apex ss && zHu apex ss && zEi apex ss
end
def jF (s : Bs) : Bool := zL s && (match (zU s).reverse with
 | []=>false
 | x :: _=>x == [42])
def kY (n:Int):Bool:=decide (n≥1) && decide (n≤1000000)
def jK {κ : Type} [DecidableEq κ] (f : Nat → κ) : Nat → List (κ × Bool)
 | 0=>[]
 | k + 1=>xV (f k) true (jK f k)
def jQ (hs:List qT):Nat→List (Int × Bool):=jK fun k=>(hs.getD k default).addr
def zBQ (hs : List qT) (i : Nat) : Bool :=
 let h:=hs.getD i default
 !(!zL h.name || jF h.name || decide (h.owner < 0) || decide (h.owner≥32)) && !(!kY h.addr || (yI h.addr (jQ hs i)).getD false)
def jP (hs:List qT):Bool:=decide (hs.length≤64) && zP (zBQ hs) hs.length
abbrev zBy:=Int × Bs
def wG.key (p:wG):zBy:=(p.host,p.apex)
def qJ (ps:List wG):Nat→List (zBy × Bool):=jK fun k=>(ps.getD k default).key
def zFi (ps:List wG):Nat→List (Bs × Bool):=jK fun k=>(ps.getD k default).apex
def zCE (hosts : Int) (ps : List wG) (i : Nat) : Bool :=
 let p:=ps.getD i default
 !(decide (p.host < 0) || decide (p.host≥hosts) || (yI p.key (qJ ps i)).getD false || !xB p.apex p.sets)
def zAU (hosts:Int) (ps:List wG):Bool:=decide (ps.length≤4000) && zP (zCE hosts ps) ps.length && decide ((zFi ps ps.length).length≤500)
def zBl (name : Bs) (type life : Int) (ds : List xO) (hints : List Int) : Bool :=
 wK name type life ds && type == 6 && name == [46] && decide (1≤hints.length) && decide (hints.length≤8) && zP (fun i=>kY (hints.getD i 0)) hints.length
def zAC (w:zGG):Bool:=jP w.hosts && zAU w.hosts.length w.zones && zBl w.aname w.atype w.alife w.adata w.hints
def zFc (p:wG):Bool:=p.sets.length == 0 && !(p.apex == [42] || zBU p.apex [42,46]) && zL p.apex
def zEm (hosts : Int) (ps : List wG) (i : Nat) : Bool :=
 let p:=ps.getD i default
 !(decide (p.host < 0) || decide (p.host≥hosts) || (yI p.key (qJ ps i)).getD false || (!zFc p && !xB p.apex p.sets))
def zCj (ps:List wG) (hosts:Int):Bool:=decide (ps.length≤500) && zP (zEm hosts ps) ps.length
end Go.SL
