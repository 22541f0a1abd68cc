/- The verification condition with a stack of codes: first-order steps for simp. -/
import Derived.Test.YtloknibdaldffaaGreatDoorNplJ2
namespace Go.SL
open Go
inductive Item where
 | code (c : ACode)
 | ops (l : List AOper) (live : List Nat)
 | opd (p l : List DOp) (live : List Nat)
 | blk (id : Nat)
 | goal (G : Fr → Hp → Prop)
mutual
def vks (E : Env) : List Item → Fr → Hp → (X → Fr → Hp → Prop) → Prop
 | [],fr,H,Q => Q .nrm fr H
 | .code c :: k, fr, H, Q => vc E c fr H fun e fr' H' => match e with
  | .nrm => vks E k fr' H' Q
  | e => unw E k e fr' H' Q
 | .ops l live :: k,fr,H,Q => evs E l fr H fun fr' H' => vks E k (fr'.keep live) H' Q
 | .opd p l live :: k,fr,H,Q => evd E p l fr H fun fr' H' => vks E k (fr'.keep live) H' Q
 | .blk _ :: k,fr,H,Q => vks E k fr H Q
 | .goal G :: _,fr,H,_ => G fr H
def unw (E : Env) : List Item → X → Fr → Hp → (X → Fr → Hp → Prop) → Prop
 | [],e,fr,H,Q => Q e fr H
 | .blk id :: k,e,fr,H,Q => if e = .exit id then vks E k fr H Q else unw E k e fr H Q
 | .code _ :: k,e,fr,H,Q => unw E k e fr H Q
 | .ops _ _ :: k,e,fr,H,Q => unw E k e fr H Q
 | .opd _ _ _ :: k,e,fr,H,Q => unw E k e fr H Q
 | .goal _ :: k,e,fr,H,Q => unw E k e fr H Q
end
section
variable {E : Env} {fr : Fr} {H : Hp} {Q : X → Fr → Hp → Prop} {k : List Item}
theorem vc_of_vks {c : ACode} (h : vks E [.code c] fr H Q) : vc E c fr H Q := by
 simp only [vks] at h
 refine vc_mono (fun e fr H h => ?_) h
 cases e <;> simpa [unw] using h
theorem vks_nil : vks E [] fr H Q = Q .nrm fr H := by simp [vks]
theorem vks_skip : vks E (.code .skip :: k) fr H Q = vks E k fr H Q := by simp [vks,vc]
theorem vks_reg {l : List AOper} {live : List Nat} : vks E (.code (.reg l live) :: k) fr H Q = vks E (.ops l live :: k) fr H Q := by simp [vks,vc]
theorem vks_regd {l : List DOp} {live : List Nat} : vks E (.code (.regd l live) :: k) fr H Q = vks E (.opd [] l live :: k) (fr.start (dsts l)) H Q := by simp [vks,vc]
theorem vks_regl {l : List DOp} {mid live : List Nat} {last : AOper} : vks E (.code (.regl l mid last live) :: k) fr H Q = vks E (.opd [] l mid :: .ops [last] live :: k) (fr.start (dsts l)) H Q := by simp [vks,vc,evs]
theorem vks_opd {x : DOp} {p l : List DOp} {live : List Nat} : vks E (.opd p (x :: l) live :: k) fr H Q = ev1 E x.o fr H (fun fr' H' => stabs E fr' H' x.ls p ∧ vks E (.opd (x :: p) l live :: k) fr' H' Q) := by simp [vks,evd]
theorem vks_opdnil {p : List DOp} {live : List Nat} : vks E (.opd p [] live :: k) fr H Q = vks E k (fr.keep live) H Q := by simp [vks,evd]
theorem stabs_nil {p : List DOp} : stabs E fr H [] p := by
 induction p with
 | nil => trivial
 | cons y p ih => exact ⟨by simp,ih⟩
theorem vks_dsim {i : Nat} {d : Option Nat} {x : AOp} {g : Option (Nat × Bool)} {p r : List DOp} {live : List Nat} :
  vks E (.opd p (⟨i,⟨d,.sim x,g⟩,[]⟩ :: r) live :: k) fr H Q = (gok fr g ∧ (gcond fr g = true → simC E fr H x) ∧ vks E (.opd (⟨i,⟨d,.sim x,g⟩,[]⟩ :: p) r live :: k) (setD fr d ⟨gcond fr g,simT E fr H x⟩) H Q) := by
 simp [vks,evd,ev1,stabs_nil]
theorem vks_seq {a b : ACode} : vks E (.code (.seq a b) :: k) fr H Q = vks E (.code a :: .code b :: k) fr H Q := by
 simp only [vks,vc]
 congr 1
 funext e fr' H'
 cases e <;> simp [unw]
theorem vks_block {id : Nat} {c : ACode} : vks E (.code (.block id c) :: k) fr H Q = vks E (.code c :: .blk id :: k) fr H Q := by
 simp only [vks,vc]
 congr 1
 funext e fr' H'
 cases e <;> simp [unw]
theorem vks_exit {id : Nat} : vks E (.code (.exit id) :: k) fr H Q = unw E k (.exit id) fr H Q := by simp [vks,vc]
theorem vks_ret : vks E (.code .ret :: k) fr H Q = unw E k .ret fr H Q := by simp [vks,vc]
theorem vks_blk {id : Nat} : vks E (.blk id :: k) fr H Q = vks E k fr H Q := by simp [vks]
theorem vks_goal {G : Fr → Hp → Prop} : vks E (.goal G :: k) fr H Q = G fr H := by simp [vks]
theorem vks_opsnil {live : List Nat} : vks E (.ops [] live :: k) fr H Q = vks E k (fr.keep live) H Q := by simp [vks,evs]
theorem unw_nil {e : X} : unw E [] e fr H Q = Q e fr H := by simp [unw]
theorem unw_code {e : X} {c : ACode} : unw E (.code c :: k) e fr H Q = unw E k e fr H Q := by simp [unw]
theorem unw_ops {e : X} {l : List AOper} {live : List Nat} : unw E (.ops l live :: k) e fr H Q = unw E k e fr H Q := by simp [unw]
theorem unw_opd {e : X} {p l : List DOp} {live : List Nat} : unw E (.opd p l live :: k) e fr H Q = unw E k e fr H Q := by simp [unw]
theorem unw_goal {e : X} {G : Fr → Hp → Prop} : unw E (.goal G :: k) e fr H Q = unw E k e fr H Q := by simp [unw]
theorem unw_blk_exit {i j : Nat} : unw E (.blk i :: k) (.exit j) fr H Q = if j = i then vks E k fr H Q else unw E k (.exit j) fr H Q := by simp [unw]
theorem unw_blk_ret {i : Nat} : unw E (.blk i :: k) .ret fr H Q = unw E k .ret fr H Q := by simp [unw]
theorem vks_cond_eq {c : Arg} {x y : ACode} : vks E (.code (.cond c x y) :: k) fr H Q = (vok fr c ∧ (match vo E fr c with
  | .bool b => (b = true → vks E (.code x :: k) fr H Q) ∧ (b = false → vks E (.code y :: k) fr H Q)
  | _ => False)) := by
 simp only [vks,vc]
 congr 1
theorem vks_loop {live : List Nat} {c : ACode} (I : Nat → Fr → Hp → Prop) (m0 : Nat) (h0 : I m0 (fr.keep live) H)
  (h : ∀ m fr' H',I m fr' H' → vks E (.code c :: .goal (fun fr'' H'' => ∃ m',m' < m ∧ I m' (fr''.keep live) H'') :: k) fr' H' Q) :
  vks E (.code (.loop live c) :: k) fr H Q := by
 simp only [vks,vc]
 refine ⟨I,⟨m0,h0⟩,fun m fr' H' hi => ?_⟩
 have := h m fr' H' hi
 simp only [vks] at this
 refine vc_mono (fun e fr H h => ?_) this
 cases e <;> simpa [unw] using h
theorem vks_sim {d : Option Nat} {x : AOp} {g : Option (Nat × Bool)} {r : List AOper} {live : List Nat} :
  vks E (.ops (⟨d,.sim x,g⟩ :: r) live :: k) fr H Q = (gok fr g ∧ (gcond fr g = true → simC E fr H x) ∧ vks E (.ops r live :: k) (setD fr d ⟨gcond fr g,simT E fr H x⟩) H Q) := by simp [vks,evs,ev1]
theorem vks_sim0 {d : Option Nat} {x : AOp} {r : List AOper} {live : List Nat} :
  vks E (.ops (⟨d,.sim x,none⟩ :: r) live :: k) fr H Q = (simC E fr H x ∧ vks E (.ops r live :: k) (setD fr d ⟨true,simT E fr H x⟩) H Q) := by simp [vks,evs,ev1,gok,gcond]
theorem vks_callp {d : Option Nat} {f : Nat} {args : List Arg} {g : Option (Nat × Bool)} {r : List AOper} {live : List Nat} (v : Value) (h0 : gok fr g)
  (h1 : gcond fr g = true → allok fr args ∧ FnP E f (args.map (vo E fr)) H v) (h : vks E (.ops r live :: k) (setD fr d ⟨gcond fr g,.val v⟩) H Q) :
  vks E (.ops (⟨d,.callp f args,g⟩ :: r) live :: k) fr H Q := by
 simp only [vks,evs,ev1]
 refine ⟨h0,v,h1,?_⟩
 simpa [vks] using h
theorem vks_call {d : Option Nat} {f : Nat} {args : List Arg} {r : List AOper} {live : List Nat} {R : Value → Hp → Prop} (h0 : allok fr args) (h1 : Fn E.P (E.fn f) (args.map (vo E fr)) H R)
  (h : ∀ v H',R v H' → vks E (.ops r live :: k) (setD fr d ⟨true,.val v⟩) H' Q) :
  vks E (.ops (⟨d,.call f args,none⟩ :: r) live :: k) fr H Q := by
 simp only [vks,evs,ev1,gok,gcond,big]
 refine ⟨trivial,fun _ => ⟨h0,R,h1,fun v H' hr => ?_⟩,fun e => by cases e⟩
 simpa [vks] using h v H' hr
theorem vks_callv {d : Option Nat} {x : Arg} {args : List Arg} {r : List AOper} {live : List Nat} {R : Value → Hp → Prop} (h0 : vok fr x) (h0' : allok fr args) (h1 : FnV E (vo E fr x) (args.map (vo E fr)) H R)
  (h : ∀ v H',R v H' → vks E (.ops r live :: k) (setD fr d ⟨true,.val v⟩) H' Q) :
  vks E (.ops (⟨d,.callv x args,none⟩ :: r) live :: k) fr H Q := by
 simp only [vks,evs,ev1,gok,gcond,big]
 refine ⟨trivial,fun _ => ⟨h0,h0',R,h1,fun v H' hr => ?_⟩,fun e => by cases e⟩
 simpa [vks] using h v H' hr
theorem cond_or (a b : Bool) : (bif a then true else b) = (a || b) := by cases a <;> rfl
theorem cond_and (a b : Bool) : (bif a then b else false) = (a && b) := by cases a <;> rfl
theorem beq_false' (a : Bool) : (a == false) = !a := by cases a <;> rfl
theorem beq_true' (a : Bool) : (a == true) = a := by cases a <;> rfl
end
abbrev Js (d : Nat) (x : AOp) : AOper := ⟨some d,.sim x,none⟩
abbrev Jt (d : Nat) (x : AOp) (g : Nat) : AOper := ⟨some d,.sim x,some (g,true)⟩
abbrev Jn (d : Nat) (x : AOp) (g : Nat) : AOper := ⟨some d,.sim x,some (g,false)⟩
abbrev Jm (d s : Nat) : AOper := ⟨some d,.sim (.mov (.t s)),none⟩
abbrev Jc (d : Nat) (v : Value) : AOper := ⟨some d,.sim (.mov (.c v)),none⟩
abbrev Jf (d k s : Nat) : AOper := ⟨some d,.sim (.fld k (.t s)),none⟩
abbrev Jl (d s : Nat) : AOper := ⟨some d,.sim (.ld none (.t s)),none⟩
abbrev Jk (d n s : Nat) : AOper := ⟨some d,.sim (.ld (some n) (.t s)),none⟩
abbrev Jp (d f : Nat) (a : List Arg) : AOper := ⟨some d,.callp f a,none⟩
abbrev Jx (d f : Nat) (a : List Arg) : AOper := ⟨some d,.call f a,none⟩
abbrev Jw (k a b : Nat) : AOper := ⟨none,.st k (.t a) (.t b),none⟩
abbrev Ji (d k a b : Nat) : AOper := ⟨some d,.sim (.idx k (.t a) (.t b)),none⟩
abbrev Je (d s : Nat) : AOper := ⟨some d,.sim (.len false (.t s)),none⟩
abbrev Ja (d a b : Nat) : AOper := ⟨some d,.sim (.pick (.t a) (.t b) (.c (.bool false))),none⟩
abbrev Jr (d a b : Nat) : AOper := ⟨some d,.sim (.pick (.t a) (.c (.bool true)) (.t b)),none⟩
abbrev Ju (d s g : Nat) : AOper := ⟨some d,.sim (.mov (.t s)),some (g,true)⟩
abbrev Jv (d s g : Nat) : AOper := ⟨some d,.sim (.mov (.t s)),some (g,false)⟩
abbrev Kf (d k s g : Nat) : AOper := ⟨some d,.sim (.fld k (.t s)),some (g,true)⟩
abbrev Kg (d k s g : Nat) : AOper := ⟨some d,.sim (.fld k (.t s)),some (g,false)⟩
abbrev Kl (d s g : Nat) : AOper := ⟨some d,.sim (.ld none (.t s)),some (g,true)⟩
abbrev Km (d s g : Nat) : AOper := ⟨some d,.sim (.ld none (.t s)),some (g,false)⟩
abbrev Kb (d : Nat) (o : BinOp) (a : Nat) (n : Int) : AOper := ⟨some d,.sim (.bin o (.t a) (.c (.int .i64 n))),none⟩
abbrev Kc (d : Nat) (o : BinOp) (a b : Nat) : AOper := ⟨some d,.sim (.bin o (.t a) (.t b)),none⟩
abbrev Ke (d k s : Nat) : AOper := ⟨some d,.sim (.ext k (.t s)),none⟩
abbrev Kx (d s : Nat) : AOper := ⟨some d,.sim (.box (.t s)),none⟩
abbrev Kn (d s : Nat) : AOper := ⟨some d,.sim (.not (.t s)),none⟩
abbrev Jz (r : List AOper) (l : List Nat) (c : ACode) : ACode := .seq (.reg r l) c
end Go.SL
namespace Go.SL
open Go
def cf48_0 : List AOper := [
 Kx 1 0,Jc 2 (.bool false)]
def cf48_1 : List AOper := [
 Jf 10 8 1,Jl 11 10,Kb 12 .lss 11 1,Jm 13 12,Kg 14 8 1 13,Km 15 14 13,Jn 16 (.bin .gtr (.t 15) (.c (.int .i64 10000000))) 13,Jr 17 13 16,Jm 18 17,Kg 19 7 1 18,Km 20 19 18,Jn 21 (.bin .lss (.t 20) (.c (.int .i64 0))) 18,Jr 22 18 21,Jm 23 22,Kg 24 7 1 23,Km 25 24 23,Jn 26 (.bin .gtr (.t 25) (.c (.int .i64 1000))) 23,Jr 27 23 26,Jm 28 27,Kg 29 1 1 28,Km 30 29 28,Jn 31 (.len false (.t 30)) 28,Jn 32 (.bin .gtr (.t 31) (.c (.int .i64 4000))) 28,Jr 33 28 32]
def cf48_2 : List AOper := [
 Jc 2 (.bool false)]
def cf48_3 : List AOper := [
 Jf 34 0 1,Jl 35 34,Jf 36 2 1,Jk 37 4 36,Jf 38 6 1,Jl 39 38,Js 40 (.bld [.slice none 0 0,.slice none 0 0,.string ⟨#[]⟩,.int .i64 0,.int .i64 0,.slice none 0 0,.slice none 0 0] [(0,1,.t 35),(2,4,.t 37),(6,1,.t 39)]),Jp 41 14 [.t 40],Kn 42 41]
def cf48_4 : List AOper := [
 Jc 2 (.bool false)]
def cf48_5 : List AOper := [
 ⟨some 43,.mkmap none,none⟩,Jm 3 43]
def cf48_6 : List AOper := [
 Jf 44 1 1,Jl 45 44,Je 46 45,Jc 47 (.int .i64 0)]
def cf48_7 : List AOper := [
 Kc 48 .lss 47 46]
def cf48_8 : List AOper := [
 Ji 49 5 45 47,Jk 50 5 49,Js 5 (.new [.int .i64 0,.int .i64 0,.int .i64 0,.string ⟨#[]⟩,.slice none 0 0]),Jw 5 5 50]
def cf48_9 : List AOper := [
 Jf 51 0 5,Jl 52 51,Kb 53 .lss 52 0,Jm 54 53,Kg 55 0 5 54,Km 56 55 54,Kg 57 0 1 54,Km 58 57 54,Jn 59 (.len false (.t 58)) 54,Jn 60 (.bin .geq (.t 56) (.t 59)) 54,Jr 61 54 60,Jm 62 61,Kg 63 1 5 62,Km 64 63 62,Jn 65 (.bin .lss (.t 64) (.c (.int .i64 0))) 62,Jr 66 62 65,Jm 67 66,Kg 68 1 5 67,Km 69 68 67,Kg 70 2 5 67,Km 71 70 67,Jn 72 (.bin .geq (.t 69) (.t 71)) 67,Jr 73 67 72,Jm 74 73,Kg 75 2 5 74,Km 76 75 74,Kg 77 8 1 74,Km 78 77 74,Jn 79 (.bin .gtr (.t 76) (.t 78)) 74,Jr 80 74 79]
def cf48_10 : List AOper := [
 Jc 2 (.bool false)]
def cf48_11 : List AOper := [
 Jf 81 3 5,Jk 82 2 81,Jp 83 43 [.t 82],Kn 84 83]
def cf48_12 : List AOper := [
 Jc 2 (.bool false)]
def cf48_13 : List AOper := [
 Jf 85 0 5,Jl 86 85,Jf 87 3 5,Jf 88 0 87,Jl 89 88,Js 90 (.bld [.int .i64 0,.string ⟨#[]⟩] [(0,1,.t 86),(1,1,.t 89)]),Js 6 (.new [.int .i64 0,.string ⟨#[]⟩]),Jw 2 6 90]
def cf48_14 : List AOper := [
 Jm 91 3,Jk 92 2 6,Jf 94 1 5,Jl 95 94,Jf 96 2 5,Jl 97 96,Js 98 (.bld [.int .i64 0,.int .i64 0] [(0,1,.t 95),(1,1,.t 97)]),
 ⟨some 99,.mksl 2 1 [.int .i64 0,.int .i64 0] [(0,2,.t 98)],none⟩,
 ⟨some 100,.ment true [.i,.s] (.slice none 0 0) (.t 91) (.t 92),none⟩,Ke 93 0 100,
 ⟨some 101,.app 2 16 [.int .i64 0,.int .i64 0] (.t 93) (.t 99),none⟩,Ke 102 1 100,
 ⟨none,.est (.t 91) (.t 102) (.t 101),none⟩]
def cf48_15 : List AOper := [
 Kb 103 .add 47 1,Jm 47 103]
def cf48_16 : List AOper := [
 Jm 104 3,
 ⟨some 105,.rng (.t 104),none⟩]
def cf48_17 : List AOper := [
 ⟨some 106,.nxt (.t 105),none⟩,Ke 107 0 106]
def cf48_18 : List AOper := [
 ⟨some 108,.ent (.t 105),none⟩,Ke 109 1 108,Jm 8 109]
def cf48_19 : List AOper := [
 Jm 110 8,Jx 111 87 [.t 110,.f 121]]
def cf48_20 : List AOper := [
 Jc 9 (.int .i64 1)]
def cf48_21 : List AOper := [
 Jm 112 9,Jm 113 8,Je 114 113,Kc 115 .lss 112 114]
def cf48_23 : List DOp := [
 ⟨0,Jm 118 8,[]⟩,
 ⟨1,Jm 119 9,[]⟩,
 ⟨2,Ji 120 2 118 119,[]⟩,
 ⟨3,Jf 121 0 120,[]⟩,
 ⟨4,Jl 122 121,[]⟩,
 ⟨5,Jm 123 8,[]⟩,
 ⟨6,Jm 124 9,[]⟩,
 ⟨7,Kb 125 .sub 124 1,[]⟩,
 ⟨8,Ji 126 2 123 125,[]⟩,
 ⟨9,Jf 127 1 126,[]⟩,
 ⟨10,Jl 128 127,[]⟩,
 ⟨11,Kc 129 .lss 122 128,[]⟩]
def cf48_24 : List AOper := [
 Jc 2 (.bool false)]
def cf48_22 : List AOper := [
 Jm 116 9,Kb 117 .add 116 1,Jm 9 117]
def cf48_25 : List AOper := [
 Jf 130 1 1,Jl 131 130,Jx 132 119 [.t 131,.f 120],Je 133 132,Kb 134 .leq 133 500,Jm 2 134]
def cf48 : AFunc := ⟨135, [.slot 2],
  (Jz cf48_0 [1] (.seq (Jz cf48_1 [1,33] (.cond (.t 33) (Jz cf48_2 [2] .ret) .skip)) (.seq (Jz cf48_3 [1,42] (.cond (.t 42) (Jz cf48_4 [2] .ret) .skip)) (Jz cf48_5 [1,3] (.seq (Jz cf48_6 [1,3,45,46,47] (.block 0 (.loop [1,3,45,46,47] (Jz cf48_7 [1,3,45,46,47,48] (.seq (.cond (.t 48) .skip (.exit 0)) (.seq (.block 1 (Jz cf48_8 [1,3,5,45,46,47] (.seq (Jz cf48_9 [1,3,5,45,46,47,80] (.cond (.t 80) (Jz cf48_10 [2] .ret) .skip)) (.seq (Jz cf48_11 [1,3,5,45,46,47,84] (.cond (.t 84) (Jz cf48_12 [2] .ret) .skip)) (Jz cf48_13 [1,3,5,6,45,46,47] (.reg cf48_14 [1,3,45,46,47])))))) (.reg cf48_15 [1,3,45,46,47]))))))) (.seq (Jz cf48_16 [1,105] (.block 2 (.loop [1,105] (Jz cf48_17 [1,105,107] (.seq (.cond (.t 107) .skip (.exit 2)) (.block 3 (Jz cf48_18 [1,8,105] (Jz cf48_19 [1,8,105] (Jz cf48_20 [1,8,9,105] (.block 4 (.loop [1,8,9,105] (.seq (Jz cf48_21 [1,8,9,105,115] (.cond (.t 115) .skip (.exit 4))) (.seq (.block 5 (.seq (.regd cf48_23 [1,8,9,105,129]) (.cond (.t 129) (Jz cf48_24 [2] .ret) .skip))) (.reg cf48_22 [1,8,9,105])))))))))))))) (Jz cf48_25 [2] .ret)))))))⟩
def cf121_0 : List AOper := [
 Kx 2 0,Kx 3 1,Jc 4 (.int .i64 0)]
def cf121_1 : List AOper := [
 Jf 5 0 2,Jl 6 5,Jf 7 0 3,Jl 8 7,Jp 9 89 [.t 6,.t 8],Jm 4 9]
def cf121 : AFunc := ⟨10, [.slot 4],
  (Jz cf121_0 [2,3] (Jz cf121_1 [4] .ret))⟩
def cf109_0 : List AOper := [
 Jm 10 1,Kb 11 .add 10 1,Jm 8 11]
def cf109_1 : List AOper := [
 Jm 12 8,Jm 13 2,Kc 14 .lss 12 13]
def cf109_3 : List AOper := [
 Jm 17 8,Jm 9 17]
def cf109_4 : List DOp := [
 ⟨0,Jm 18 9,[]⟩,
 ⟨1,Jm 19 1,[]⟩,
 ⟨2,Kc 20 .gtr 18 19,[]⟩,
 ⟨3,Jm 21 20,[]⟩,
 ⟨4,Ju 22 3 21,[]⟩,
 ⟨5,Ju 23 0 21,[]⟩,
 ⟨6,Ju 24 9 21,[]⟩,
 ⟨7,Jt 25 (.idx 2 (.t 23) (.t 24)) 21,[]⟩,
 ⟨8,Jt 26 (.ld (some 2) (.t 25)) 21,[]⟩,
 ⟨9,Ju 27 0 21,[]⟩,
 ⟨10,Ju 28 9 21,[]⟩,
 ⟨11,Jt 29 (.bin .sub (.t 28) (.c (.int .i64 1))) 21,[]⟩,
 ⟨12,Jt 30 (.idx 2 (.t 27) (.t 29)) 21,[]⟩,
 ⟨13,Jt 31 (.ld (some 2) (.t 30)) 21,[]⟩,
 ⟨14,⟨some 32,.callv (.t 22) [.t 26,.t 31],(some (21,true))⟩,[]⟩,
 ⟨15,Jt 33 (.bin .lss (.t 32) (.c (.int .i64 0))) 21,[]⟩,
 ⟨16,Ja 34 21 33,[]⟩]
def cf109_6 : List DOp := [
 ⟨0,Jm 37 0,[]⟩,
 ⟨1,Jm 38 9,[]⟩,
 ⟨2,Jm 39 0,[]⟩,
 ⟨3,Jm 40 9,[]⟩,
 ⟨4,Kb 41 .sub 40 1,[]⟩,
 ⟨5,Jm 42 0,[]⟩,
 ⟨6,Jm 43 9,[]⟩,
 ⟨7,Kb 44 .sub 43 1,[]⟩,
 ⟨8,Ji 45 2 42 44,[]⟩,
 ⟨9,Jk 46 2 45,[]⟩,
 ⟨10,Jm 47 0,[]⟩,
 ⟨11,Jm 48 9,[]⟩,
 ⟨12,Ji 49 2 47 48,[]⟩,
 ⟨13,Jk 50 2 49,[]⟩,
 ⟨14,Ji 51 2 37 38,[]⟩,
 ⟨15,Jw 2 51 46,[2,3,4]⟩,
 ⟨16,Ji 52 2 39 41,[]⟩,
 ⟨17,Jw 2 52 50,[]⟩]
def cf109_5 : List AOper := [
 Jm 35 9,Kb 36 .sub 35 1,Jm 9 36]
def cf109_2 : List AOper := [
 Jm 15 8,Kb 16 .add 15 1,Jm 8 16]
def cf109 : AFunc := ⟨53, [],
  (Jz cf109_0 [0,1,2,3,8] (.block 0 (.loop [0,1,2,3,8] (.seq (Jz cf109_1 [0,1,2,3,8,14] (.cond (.t 14) .skip (.exit 0))) (.seq (.block 1 (Jz cf109_3 [0,1,2,3,8,9] (.block 2 (.loop [0,1,2,3,8,9] (.seq (.seq (.regd cf109_4 [0,1,2,3,8,9,34]) (.cond (.t 34) .skip (.exit 2))) (.seq (.block 3 (.regd cf109_6 [0,1,2,3,8,9])) (.reg cf109_5 [0,1,2,3,8,9]))))))) (.reg cf109_2 [0,1,2,3,8]))))))⟩
def cf118_0 : List AOper := [
 Jc 2 (.int .i64 0)]
def cf118_1 : List AOper := [
 Jm 3 0,Js 4 (.bin .geq (.t 3) (.c (.int .u64 4294967296)))]
def cf118_2 : List AOper := [
 Jm 5 0,Js 6 (.bin .shr (.t 5) (.c (.int .u64 32))),Jm 0 6]
def cf118_3 : List AOper := [
 Jc 2 (.int .i64 32)]
def cf118_4 : List AOper := [
 Jm 7 0,Js 8 (.bin .geq (.t 7) (.c (.int .u64 65536)))]
def cf118_5 : List AOper := [
 Jm 9 0,Js 10 (.bin .shr (.t 9) (.c (.int .u64 16))),Jm 0 10]
def cf118_6 : List AOper := [
 Jm 11 2,Kb 12 .add 11 16,Jm 2 12]
def cf118_7 : List AOper := [
 Jm 13 0,Js 14 (.bin .geq (.t 13) (.c (.int .u64 256)))]
def cf118_8 : List AOper := [
 Jm 15 0,Js 16 (.bin .shr (.t 15) (.c (.int .u64 8))),Jm 0 16]
def cf118_9 : List AOper := [
 Jm 17 2,Kb 18 .add 17 8,Jm 2 18]
def cf118_10 : List AOper := [
 Jm 19 2,Jm 20 0,Js 21 (.cvi .u8 (.t 20)),Js 22 (.idxs (.c (.string ⟨#[0,1,2,2,3,3,3,3,4,4,4,4,4,4,4,4,5,5,5,5,5,5,5,5,5,5,5,5,5,5,5,5,6,6,6,6,6,6,6,6,6,6,6,6,6,6,6,6,6,6,6,6,6,6,6,6,6,6,6,6,6,6,6,6,7,7,7,7,7,7,7,7,7,7,7,7,7,7,7,7,7,7,7,7,7,7,7,7,7,7,7,7,7,7,7,7,7,7,7,7,7,7,7,7,7,7,7,7,7,7,7,7,7,7,7,7,7,7,7,7,7,7,7,7,7,7,7,7,8,8,8,8,8,8,8,8,8,8,8,8,8,8,8,8,8,8,8,8,8,8,8,8,8,8,8,8,8,8,8,8,8,8,8,8,8,8,8,8,8,8,8,8,8,8,8,8,8,8,8,8,8,8,8,8,8,8,8,8,8,8,8,8,8,8,8,8,8,8,8,8,8,8,8,8,8,8,8,8,8,8,8,8,8,8,8,8,8,8,8,8,8,8,8,8,8,8,8,8,8,8,8,8,8,8,8,8,8,8,8,8,8,8,8,8,8,8,8,8,8,8,8,8,8,8,8,8]⟩)) (.t 21)),Js 23 (.cvi .i64 (.t 22)),Kc 24 .add 19 23,Jm 2 24]
def cf118 : AFunc := ⟨25, [.slot 2],
  (Jz cf118_0 [0,2] (.seq (Jz cf118_1 [0,2,4] (.cond (.t 4) (Jz cf118_2 [0] (.reg cf118_3 [0,2])) .skip)) (.seq (Jz cf118_4 [0,2,8] (.cond (.t 8) (Jz cf118_5 [0,2] (.reg cf118_6 [0,2])) .skip)) (.seq (Jz cf118_7 [0,2,14] (.cond (.t 14) (Jz cf118_8 [0,2] (.reg cf118_9 [0,2])) .skip)) (Jz cf118_10 [2] .ret)))))⟩
end Go.SL
/- Data in memory: strings, slices of structs, maps; how they stand in rows. -/
namespace Go.SL
open Go
abbrev Bs := List UInt8
abbrev S (l : Bs) : Value := .string ⟨l.toArray⟩
theorem S_size (l : Bs) : (⟨l.toArray⟩ : ByteArray).size = l.length := by simp [ByteArray.size]
theorem S_data (l : Bs) : (⟨l.toArray⟩ : ByteArray).data.toList = l := by simp
theorem S_extract (l : Bs) (i j : Nat) : (⟨l.toArray⟩ : ByteArray).extract i j = ⟨((l.drop i).take (j - i)).toArray⟩ := by
 apply ByteArray.ext
 simp [ByteArray.data_extract]
theorem S_eta (b : ByteArray) : b = ⟨b.data.toList.toArray⟩ := by cases b; simp
theorem strOf_S (l : Bs) : strOf (S l) = l := by simp [strOf]
theorem getD_of_take {vs r : List Value} {o sz j : Nat} (h : (vs.drop o).take sz = r) (hj : j < sz) : vs.getD (o + j) undef = r.getD j undef := by
 subst h
 simp only [List.getD_eq_getElem?_getD,List.getElem?_take,hj,if_true,List.getElem?_drop]
theorem take_of_take {vs r : List Value} {o sz : Nat} (h : (vs.drop o).take sz = r) (j m : Nat) (hj : j + m ≤ sz) : (vs.drop (o + j)).take m = (r.drop j).take m := by
 subst h
 rw [List.drop_take,List.take_take,List.drop_drop,Nat.min_eq_left (by omega)]
def SlAt (H : Hp) (sz : Nat) (v : Value) (n : Nat) (row : Nat → List Value) : Prop :=
 ∃ a cap, v = .slice a n cap ∧ (a = none → n = 0) ∧
  (0 < n → ∃ b o vs c wr,a = some ⟨b,o,none⟩ ∧ H b = some (.row vs c wr) ∧ ∀ i,i < n → o + i * sz + sz ≤ vs.length ∧ (vs.drop (o + i * sz)).take sz = row i)
theorem SlAt.mono {H H' : Hp} {sz : Nat} {v : Value} {n : Nat} {row : Nat → List Value} (h : SlAt H sz v n row) (hl : H.le H') : SlAt H' sz v n row := by
 obtain ⟨a,cap,hv,hs,hr⟩ := h
 refine ⟨a,cap,hv,hs,fun hn => ?_⟩
 obtain ⟨b,o,vs,c,wr,ha,hb,hi⟩ := hr hn
 exact ⟨b,o,vs,c,wr,ha,hl _ _ hb,hi⟩
theorem SlAt.row_congr {H : Hp} {sz : Nat} {v : Value} {n : Nat} {row row' : Nat → List Value} (h : SlAt H sz v n row) (he : ∀ i, i < n → row i = row' i) : SlAt H sz v n row' := by
 obtain ⟨a,cap,hv,hs,hr⟩ := h
 refine ⟨a,cap,hv,hs,fun hn => ?_⟩
 obtain ⟨b,o,vs,c,wr,ha,hb,hi⟩ := hr hn
 exact ⟨b,o,vs,c,wr,ha,hb,fun i h => ⟨(hi i h).1,(hi i h).2.trans (he i h)⟩⟩
theorem SlAt.nil {H : Hp} {sz : Nat} {row : Nat → List Value} : SlAt H sz (.slice none 0 0) 0 row := ⟨none,0,rfl,(fun _ => rfl),fun h => absurd h (Nat.lt_irrefl 0)⟩
structure DatumD where
 text : Bs
 n : Int
 m : Int
 deriving DecidableEq,Inhabited
structure SigD where
 zone : Bs
 key : Int
 alg : Int
 from_ : Int
 till : Int
 sum : Int
 deriving DecidableEq,Inhabited
structure SignedD where
 name : Bs
 type : Int
 life : Int
 data : List DatumD
 sigs : List SigD
 deriving DecidableEq,Inhabited
structure PlacedD where
 host : Int
 apex : Bs
 sets : List SignedD
 deriving DecidableEq,Inhabited
structure HostD where
 name : Bs
 addr : Int
 owner : Int
 deriving DecidableEq,Inhabited
structure WorldD where
 hosts : List HostD
 zones : List PlacedD
 aname : Bs
 atype : Int
 alife : Int
 adata : List DatumD
 hints : List Int
 deriving DecidableEq,Inhabited
def rDatum (ds : List DatumD) (i : Nat) : List Value := [S (ds.getD i default).text,.int .i64 (ds.getD i default).n,.int .i64 (ds.getD i default).m]
def rSig (gs : List SigD) (i : Nat) : List Value := [S (gs.getD i default).zone,.int .i64 (gs.getD i default).key,.int .i64 (gs.getD i default).alg,.int .i64 (gs.getD i default).from_,.int .i64 (gs.getD i default).till,.int .u64 (gs.getD i default).sum]
def rHost (hs : List HostD) (i : Nat) : List Value := [S (hs.getD i default).name,.int .i64 (hs.getD i default).addr,.int .i64 (hs.getD i default).owner]
def rInt (ns : List Int) (i : Nat) : List Value := [.int .i64 (ns.getD i 0)]
def rSigned (ss : List SignedD) (d g : Nat → Value) (i : Nat) : List Value := [S (ss.getD i default).name,.int .i64 (ss.getD i default).type,.int .i64 (ss.getD i default).life,d i,g i]
def rPlaced (ps : List PlacedD) (z : Nat → Value) (i : Nat) : List Value := [.int .i64 (ps.getD i default).host,S (ps.getD i default).apex,z i]
def DataAt (H : Hp) (v : Value) (ds : List DatumD) : Prop := SlAt H 3 v ds.length (rDatum ds)
def SigsAt (H : Hp) (v : Value) (gs : List SigD) : Prop := SlAt H 6 v gs.length (rSig gs)
def HostsAt (H : Hp) (v : Value) (hs : List HostD) : Prop := SlAt H 3 v hs.length (rHost hs)
def IntsAt (H : Hp) (v : Value) (ns : List Int) : Prop := SlAt H 1 v ns.length (rInt ns)
def SetsAt (H : Hp) (v : Value) (ss : List SignedD) : Prop := ∃ d g,SlAt H 5 v ss.length (rSigned ss d g) ∧ ∀ i,i < ss.length → DataAt H (d i) (ss.getD i default).data ∧ SigsAt H (g i) (ss.getD i default).sigs
def PutsAt (H : Hp) (v : Value) (ps : List PlacedD) : Prop := ∃ z,SlAt H 3 v ps.length (rPlaced ps z) ∧ ∀ i,i < ps.length → SetsAt H (z i) (ps.getD i default).sets
section
variable {H H' : Hp} {v : Value}
theorem DataAt.mono {ds : List DatumD} (h : DataAt H v ds) (hl : H.le H') : DataAt H' v ds := SlAt.mono h hl
theorem SigsAt.mono {gs : List SigD} (h : SigsAt H v gs) (hl : H.le H') : SigsAt H' v gs := SlAt.mono h hl
theorem HostsAt.mono {hs : List HostD} (h : HostsAt H v hs) (hl : H.le H') : HostsAt H' v hs := SlAt.mono h hl
theorem IntsAt.mono {ns : List Int} (h : IntsAt H v ns) (hl : H.le H') : IntsAt H' v ns := SlAt.mono h hl
theorem SetsAt.mono {ss : List SignedD} (h : SetsAt H v ss) (hl : H.le H') : SetsAt H' v ss := by
 obtain ⟨d,g,h1,h2⟩ := h
 exact ⟨d,g,h1.mono hl,fun i hi => ⟨(h2 i hi).1.mono hl,(h2 i hi).2.mono hl⟩⟩
theorem PutsAt.mono {ps : List PlacedD} (h : PutsAt H v ps) (hl : H.le H') : PutsAt H' v ps := by
 obtain ⟨z,h1,h2⟩ := h
 exact ⟨z,h1.mono hl,fun i hi => (h2 i hi).mono hl⟩
end
theorem le_put {H : Hp} {b : Nat} (h : H b = none) (o : AObj) : H.le (H.put b o) := Hp.le.put h
theorem put_put (H : Hp) (b : Nat) (o o' : AObj) : (H.put b o).put b o' = H.put b o' := by
 funext c
 simp only [Hp.put]
 split <;> rfl
theorem le_put_of_le {H0 H : Hp} {b : Nat} (h : H0.le H) (hb : H0 b = none) (o : AObj) : H0.le (H.put b o) := fun c p hc => by
 rw [Hp.put_ne]
 ·exact h c p hc
 ·rintro rfl; rw [hb] at hc; cases hc
def MapAt (H : Hp) (m : Nat) (l : List (Value × Value)) : Prop := ∃ es clock,H m = some (.obj (.map es clock)) ∧ es.toList.map (fun e => (e.key,e.val)) = l
section
variable {κ ν : Type} [DecidableEq κ]
def mget (k : κ) : List (κ × ν) → Option ν
 | [] => none
 | (k',v) :: r => if k = k' then some v else mget k r
def mput (k : κ) (v : ν) : List (κ × ν) → List (κ × ν)
 | [] => [(k,v)]
 | (k',v') :: r => if k = k' then (k,v) :: r else (k',v') :: mput k v r
theorem mget_mput (k k' : κ) (v : ν) (l : List (κ × ν)) : mget k' (mput k v l) = if k' = k then some v else mget k' l := by
 induction l with
 | nil => simp [mput,mget]
 | cons e r ih =>
  obtain ⟨j,u⟩ := e
  simp only [mput]
  by_cases h : k = j
  ·subst h
   by_cases h' : k' = k
   ·simp [mget,h']
   ·simp [mget,h']
  ·simp only [if_neg h,mget,ih]
   by_cases h' : k' = j
   ·subst h'
    simp [Ne.symm h]
   ·simp [h']
theorem mfind_enc {ag : Bool} {ks : List Kd} {enc : κ → Value} {encv : ν → Value} (hk : ∀ a b, keyEq ag ks (enc a) (enc b) = some (decide (a = b))) (k : κ) :
  ∀ (es : List MapEntry) (l : List (κ × ν)) (i : Nat), es.map (fun e => (e.key, e.val)) = l.map (fun e => (enc e.1, encv e.2)) →
   (mget k l = none → mfind ag ks (enc k) es i = some none) ∧
   (∀ v, mget k l = some v → ∃ j, i ≤ j ∧ mfind ag ks (enc k) es i = some (some (j, encv v)) ∧
    ∀ (f : MapEntry → MapEntry) (u : ν),(∀ e,(f e).key = enc k ∧ (f e).val = encv u) → (es.modify (j - i) f).map (fun e => (e.key,e.val)) = (mput k u l).map (fun e => (enc e.1,encv e.2)))
 | [],[],i,_ => ⟨fun _ => rfl,fun v h => by cases h⟩
 | [],_ :: _,i,h => by simp at h
 | _ :: _,[],i,h => by simp at h
 | e :: es, (k', u') :: l, i, h => by
  simp only [List.map_cons,List.cons.injEq,Prod.mk.injEq] at h
  obtain ⟨⟨h1,h2⟩,h3⟩ := h
  have ih := mfind_enc hk k es l (i + 1) h3
  simp only [mget,mfind,h1,hk,mput]
  by_cases hkk : k = k'
  ·subst hkk
   refine ⟨fun h => by simp at h,fun v hv => ⟨i,Nat.le_refl _,?_,fun f u hf => ?_⟩⟩
   ·simp only [if_true,Option.some.injEq] at hv
    subst hv
    simp [h2]
   ·simp [hf e,h3]
  ·simp only [hkk,if_false,decide_false]
   refine ⟨ih.1,fun v hv => ?_⟩
   obtain ⟨j,hj,hm,hmod⟩ := ih.2 v hv
   refine ⟨j,by omega,hm,fun f u hf => ?_⟩
   have e1 : j - i = (j - (i + 1)) + 1 := by omega
   rw [e1]
   simp only [List.modify_succ_cons,List.map_cons,hmod f u hf,h1,h2]
end
section
variable {E : Env} {fr : Fr} {H : Hp} {Q : X → Fr → Hp → Prop} {k : List Item} {κ ν : Type} [DecidableEq κ]
theorem vks_look {d : Option Nat} {ag : Bool} {ks : List Kd} {zero : Value} {ok : Bool} {m x : Arg} {r : List AOper} {live : List Nat} {enc : κ → Value} {encv : ν → Value} {l : List (κ × ν)} {b : Nat}
  (key : κ) (hk : ∀ a b,keyEq ag ks (enc a) (enc b) = some (decide (a = b))) (hki : keyIs ag ks (enc key)) (h1 : vok fr m) (h2 : vok fr x) (hm : vo E fr m = .map (some b)) (hx : vo E fr x = enc key)
  (hM : MapAt H b (l.map fun e => (enc e.1,encv e.2)))
  (h : vks E (.ops r live :: k) (setD fr d ⟨true,.val (if ok then .tuple #[((mget key l).map encv).getD zero,.bool (mget key l).isSome] else ((mget key l).map encv).getD zero)⟩) H Q) :
  vks E (.ops (⟨d,.look ag ks zero ok m x,none⟩ :: r) live :: k) fr H Q := by
 obtain ⟨es,clock,hH,he⟩ := hM
 simp only [vks,evs,ev1,gok,gcond,big] at h ⊢
 refine ⟨trivial,fun _ => ⟨h1,h2,by rw [hx]; exact hki,?_⟩,fun e => by cases e⟩
 have hf := mfind_enc hk key es.toList l 0 he
 simp only [hm,hH,hx]
 cases hg : mget key l with
 | none =>
  rw [hf.1 hg]
  simpa [hg] using h
 | some v =>
  obtain ⟨j,_,hj,_⟩ := hf.2 v hg
  rw [hj]
  simpa [hg] using h
theorem vks_upd {d : Option Nat} {ag : Bool} {ks : List Kd} {m x y : Arg} {r : List AOper} {live : List Nat} {enc : κ → Value} {encv : ν → Value} {l : List (κ × ν)} {b : Nat}
  (key : κ) (val : ν) (hk : ∀ a b,keyEq ag ks (enc a) (enc b) = some (decide (a = b))) (hki : keyIs ag ks (enc key)) (h1 : vok fr m) (h2 : vok fr x) (h3 : vok fr y) (hm : vo E fr m = .map (some b)) (hx : vo E fr x = enc key) (hy : vo E fr y = encv val)
  (hM : MapAt H b (l.map fun e => (enc e.1,encv e.2)))
  (h : ∀ o,(∀ H',MapAt (Hp.put H' b o) b ((mput key val l).map fun e => (enc e.1,encv e.2))) → vks E (.ops r live :: k) (setD fr d ⟨true,.val undef⟩) (H.put b o) Q) :
  vks E (.ops (⟨d,.upd ag ks m x y,none⟩ :: r) live :: k) fr H Q := by
 obtain ⟨es,clock,hH,he⟩ := hM
 simp only [vks,evs,ev1,gok,gcond,big] at h ⊢
 refine ⟨trivial,fun _ => ⟨h1,h2,h3,by rw [hx]; exact hki,?_⟩,fun e => by cases e⟩
 have hf := mfind_enc hk key es.toList l 0 he
 simp only [hm,hH,hx,hy]
 cases hg : mget key l with
 | none =>
  rw [hf.1 hg]
  refine h _ fun H' => ⟨_,_,Hp.put_same ..,?_⟩
  have : mput key val l = l ++ [(key, val)] := by
   clear hf h he
   induction l with
   | nil => rfl
   | cons e r ih =>
    obtain ⟨k',u⟩ := e
    simp only [mget] at hg
    split at hg
    ·cases hg
    ·rename_i hne
     simp [mput,hne,ih hg]
  simp [this,he]
 | some v =>
  obtain ⟨j,_,hj,hmod⟩ := hf.2 v hg
  rw [hj]
  refine h _ fun H' => ⟨_,_,Hp.put_same ..,?_⟩
  have := hmod (fun e => { e with key := enc key,val := encv val }) val (fun e => ⟨rfl,rfl⟩)
  simpa using this
end
end Go.SL
/- What the functions compute: names, records, zones, worlds, in plain Lean. -/
namespace Go.SL
open Go
def allN (P : Nat → Bool) : Nat → Bool
 | 0 => true
 | n + 1 => allN P n && P n
theorem allN_false {P : Nat → Bool} {n k : Nat} (hk : k < n) (h : P k = false) : allN P n = false := by
 induction n with
 | zero => omega
 | succ n ih =>
  simp only [allN]
  by_cases e : k = n
  ·subst e; simp [h]
  ·simp [ih (by omega)]
theorem allN_iff {P : Nat → Bool} {n : Nat} : allN P n = true ↔ ∀ k, k < n → P k = true := by
 induction n with
 | zero => simp [allN]
 | succ n ih =>
  simp only [allN,Bool.and_eq_true,ih]
  constructor
  ·rintro ⟨h,hn⟩ k hk
   by_cases e : k = n
   ·subst e; exact hn
   ·exact h k (by omega)
  ·exact fun h => ⟨fun k hk => h k (by omega),h n (by omega)⟩
theorem allN_succ {P : Nat → Bool} {n : Nat} (h : allN P n = true) (h' : P n = true) : allN P (n + 1) = true := by simp [allN,h,h']
def anyN (P : Nat → Bool) : Nat → Bool
 | 0 => false
 | n + 1 => anyN P n || P n
theorem anyN_true {P : Nat → Bool} {n k : Nat} (hk : k < n) (h : P k = true) : anyN P n = true := by
 induction n with
 | zero => omega
 | succ n ih =>
  simp only [anyN]
  by_cases e : k = n
  ·subst e; simp [h]
  ·simp [ih (by omega)]
def lastIxN (c : UInt8) (l : Bs) : Nat → Option Nat
 | 0 => none
 | k + 1 => if l.getD k 0 = c then some k else lastIxN c l k
def lastIx (c : UInt8) (l : Bs) : Option Nat := lastIxN c l l.length
theorem lastIxN_lt {c : UInt8} {l : Bs} {k i : Nat} (h : lastIxN c l k = some i) : i < k := by
 induction k with
 | zero => cases h
 | succ k ih =>
  simp only [lastIxN] at h
  split at h
  ·cases h; omega
  ·have := ih h; omega
theorem lastIx_lt {c : UInt8} {l : Bs} {i : Nat} (h : lastIx c l = some i) : i < l.length := lastIxN_lt h
def ixI (o : Option Nat) : Int := match o with
 | none => -1
 | some i => i
def labF : Nat → Bs → List Bs
 | 0,_ => []
 | n + 1, l => match lastIx 46 l with
  | none => [l]
  | some i => l.drop (i + 1) :: labF n (l.take i)
def labs (l : Bs) : List Bs := if l = [46] then [] else labF (l.length + 1) l
def bI (l : Bs) (i : Nat) : Int := (l.getD i 0).toNat
def okc (c : Int) : Bool := !((decide (c < 97) || decide (c > 122)) && (decide (c < 48) || decide (c > 57)) && (c != 45))
def isLabelB (l : Bs) : Bool := !(decide ((l.length : Int) < 1) || decide ((l.length : Int) > 12) || bI l 0 == 45 || bI l (l.length - 1) == 45) && allN (fun i => okc (bI l i)) l.length
def validGo : List Bs → Nat → Bool → Bool
 | [],_,_ => true
 | x :: r,c,w => if w || decide (c + 1 > 8) then false else if !(x == [42]) && !isLabelB x then false else validGo r (c + 1) (x == [42])
def nameValid (l : Bs) : Bool := l == [46] || (decide (l.length ≤ 60) && validGo (labs l) 0 false)
def hasPre (s p : Bs) : Bool := decide (p.length ≤ s.length) && s.take p.length == p
def hasSuf (s p : Bs) : Bool := decide (p.length ≤ s.length) && s.drop (s.length - p.length) == p
def underB (s z : Bs) : Bool := nameValid s && nameValid z && (s == z || z == [46] || (decide (z.length < s.length) && hasSuf s z && bI s (s.length - z.length - 1) == 46))
def underE (s z : Bs) : Int := if nameValid s && nameValid z then 0 else 11
def cmpBs (x y : Bs) : Int := if Op.bytesLess x y then -1 else if x = y then 0 else 1
def cmpInt (x y : Int) : Int := if x < y then -1 else if x > y then 1 else 0
def cmpL : List Bs → List Bs → Int
 | [],_ => -1
 | _ :: _,[] => 1
 | x :: r,y :: r' => if cmpBs x y ≠ 0 then cmpBs x y else cmpL r r'
def nameCmp (a b : Bs) : Int := if nameValid a && nameValid b then (if a = b then 0 else cmpL (labs a) (labs b)) else 0
def nameCmpE (a b : Bs) : Int := if nameValid a && nameValid b then 0 else 11
def cmpPl (a : Bs) (s : Int) (b : Bs) (t : Int) : Int := if a = b then cmpInt s t else nameCmp a b
structure Rule where
 text : Int
 leastN : Int
 mostN : Int
 leastM : Int
 mostM : Int
 even : Bool
 single : Bool
 wild : Bool
 deriving Inhabited
def rules : List Rule := [⟨0, 0, 0, 0, 0, false, false, false⟩, ⟨0, 1, 1000000, 0, 0, false, false, true⟩, ⟨1, 0, 0, 0, 0, false, false, false⟩, ⟨1, 0, 0, 0, 0, false, true, false⟩, ⟨0, 0, 65535, 0, 100000, false, true, false⟩,
 ⟨3,0,0,0,0,false,false,true⟩,⟨0,1,1000000,1,3,false,false,false⟩,⟨0,1,1000000,1,3,false,false,false⟩,⟨2,2,510,0,0,true,false,true⟩]
def rRule (r : Rule) : List Value := [.int .i64 r.text,.int .i64 r.leastN,.int .i64 r.mostN,.int .i64 r.leastM,.int .i64 r.mostM,.bool r.even,.bool r.single,.bool r.wild]
def rulesCells : List Value := (rules.map rRule).flatten
def Base (E : Env) (H : Hp) : Prop := ∃ cap wr,H (E.gl 75) = some (.row rulesCells cap wr)
theorem Base.mono {E : Env} {H H' : Hp} (h : Base E H) (hl : H.le H') : Base E H' := by
 obtain ⟨cap,wr,h⟩ := h
 exact ⟨cap,wr,hl _ _ h⟩
def withinI (x lo hi : Int) : Bool := decide (lo ≤ x) && decide (x ≤ hi)
def isWildB (s : Bs) : Bool := hasPre s [42]
def isFreeB (s : Bs) : Bool := !(!withinI s.length 1 40 || bI s 0 == 32 || bI s (s.length - 1) == 32) && allN (fun i => !(!withinI (bI s i) 97 122 && !withinI (bI s i) 48 57 && bI s i != 32)) s.length
def textOk (k : Int) (s : Bs) : Bool := if k = 1 then nameValid s && !isWildB s else if k = 2 then nameValid s else if k = 3 then isFreeB s else s == []
def validDatum (r : Rule) (d : DatumD) : Bool := !(!withinI d.n r.leastN r.mostN || !withinI d.m r.leastM r.mostM || (r.even && d.n.tmod 2 != 0)) && textOk r.text d.text
def cmpDatum (a b : DatumD) : Int := if cmpBs a.text b.text ≠ 0 then cmpBs a.text b.text else if cmpInt a.n b.n ≠ 0 then cmpInt a.n b.n else cmpInt a.m b.m
def recValid (name : Bs) (type life : Int) (ds : List DatumD) : Bool :=
 nameValid name && withinI type 1 8 && withinI life 0 100000 && withinI ds.length 1 8 &&
 !((rules.getD type.toNat default).single && ds.length != 1) && !(isWildB name && !(rules.getD type.toNat default).wild) &&
 allN (fun i => validDatum (rules.getD type.toNat default) (ds.getD i default) && !(decide (0 < i) && decide (cmpDatum (ds.getD (i - 1) default) (ds.getD i default) ≥ 0))) ds.length
section
variable (apex : Bs) (ss : List SignedD)
def sAt (i : Nat) : SignedD := ss.getD i default
def orderedB : Bool := !(!nameValid apex || hasPre apex [42] || decide (ss.length > 20000)) && allN (fun i => recValid (sAt ss i).name (sAt ss i).type (sAt ss i).life (sAt ss i).data && underB (sAt ss i).name apex &&
 (i == 0 || !decide (cmpPl (sAt ss (i - 1)).name (sAt ss (i - 1)).type (sAt ss i).name (sAt ss i).type ≥ 0))) ss.length
def bsGo (c : Nat → Int) : Nat → Nat → Nat → Nat
 | 0,i,_ => i
 | f + 1,i,j => if i < j then (if c ((i + j) / 2) < 0 then bsGo c f ((i + j) / 2 + 1) j else bsGo c f i ((i + j) / 2)) else i
def findI (n : Bs) (t : Int) : Nat := bsGo (fun h => cmpPl (sAt ss h).name (sAt ss h).type n t) (ss.length + 1) 0 ss.length
def findB (n : Bs) (t : Int) : Bool := decide (findI ss n t < ss.length) && cmpPl (sAt ss (findI ss n t)).name (sAt ss (findI ss n t)).type n t == 0
def fitsApexB (t : Int) (at_ : Bool) : Bool := if t = 3 ∨ t = 6 then !at_ else if t = 4 ∨ t = 7 then at_ else true
def apexHoldsB : Bool := findB ss apex 4 && findB ss apex 2 && allN (fun i => fitsApexB (sAt ss i).type ((sAt ss i).name == apex)) ss.length
def cutsN : Nat → List (Bs × Bool)
 | 0 => []
 | k + 1 => if (sAt ss k).type = 2 ∧ (sAt ss k).name ≠ apex then mput (sAt ss k).name true (cutsN k) else cutsN k
def cutStep (cuts : List (Bs × Bool)) (cut n : Bs) : Bs :=
 let c := if cut ≠ [] ∧ underB n cut = false then [] else cut
 if c = [] ∧ (mget n cuts).getD false = true then n else c
def cutN : Nat → Bs
 | 0 => []
 | k + 1 => cutStep (cutsN apex ss ss.length) (cutN k) (sAt ss k).name
def behind (i : Nat) : Bs := cutN apex ss (i + 1)
def aliasesB : Bool := allN (fun i => (sAt ss i).type != 3 || (!(decide (0 < i) && (sAt ss (i - 1)).name == (sAt ss i).name) && !(decide (i + 1 < ss.length) && (sAt ss (i + 1)).name == (sAt ss i).name && (sAt ss (i + 1)).type != 8))) ss.length
def cutOk (b n : Bs) (t : Int) : Bool := if b = [] then t != 6 else if b = n then !(t != 2 && t != 6 && t != 8 && t != 1) else t == 1
def cutsB : Bool := allN (fun i => cutOk (behind apex ss i) (sAt ss i).name (sAt ss i).type) ss.length
def sigsB : Bool := allN (fun i => !((behind apex ss i != [] && ((sAt ss i).type == 2 || (sAt ss i).type == 1)) && decide ((sAt ss i).sigs.length > 0))) ss.length
def sigOk (gs : List SigD) (i : Nat) : Bool :=
 let g := gs.getD i default
 !(g.zone != apex || decide (g.key < 1) || decide (g.key > 1000000) || decide (g.alg < 1) || decide (g.alg > 3)) &&
 !(decide (g.from_ < 0) || decide (g.from_ > g.till) || decide (g.till > 20000000)) &&
 !(decide (0 < i) && (g.from_ != (gs.getD 0 default).from_ || g.till != (gs.getD 0 default).till || decide (g.key ≤ (gs.getD (i - 1) default).key)))
def inFormB (gs : List SigD) : Bool := decide (gs.length ≤ 6) && allN (sigOk apex gs) gs.length
def formB : Bool := allN (fun i => inFormB apex (sAt ss i).sigs) ss.length
def zoneValid : Bool := orderedB apex ss && apexHoldsB apex ss && aliasesB ss && cutsB apex ss && sigsB apex ss && formB apex ss
end
def wildcardB (s : Bs) : Bool := nameValid s && (match (labs s).reverse with
 | [] => false
 | x :: _ => x == [42])
def addrOk (n : Int) : Bool := decide (n ≥ 1) && decide (n ≤ 1000000)
def keysN {κ : Type} [DecidableEq κ] (f : Nat → κ) : Nat → List (κ × Bool)
 | 0 => []
 | k + 1 => mput (f k) true (keysN f k)
def addrsN (hs : List HostD) : Nat → List (Int × Bool) := keysN fun k => (hs.getD k default).addr
def hostOk (hs : List HostD) (i : Nat) : Bool :=
 let h := hs.getD i default
 !(!nameValid h.name || wildcardB h.name || decide (h.owner < 0) || decide (h.owner ≥ 32)) && !(!addrOk h.addr || (mget h.addr (addrsN hs i)).getD false)
def hostsValid (hs : List HostD) : Bool := decide (hs.length ≤ 64) && allN (hostOk hs) hs.length
abbrev Pair := Int × Bs
def PlacedD.key (p : PlacedD) : Pair := (p.host,p.apex)
def pairsN (ps : List PlacedD) : Nat → List (Pair × Bool) := keysN fun k => (ps.getD k default).key
def apexesN (ps : List PlacedD) : Nat → List (Bs × Bool) := keysN fun k => (ps.getD k default).apex
def copyOk (hosts : Int) (ps : List PlacedD) (i : Nat) : Bool :=
 let p := ps.getD i default
 !(decide (p.host < 0) || decide (p.host ≥ hosts) || (mget p.key (pairsN ps i)).getD false || !zoneValid p.apex p.sets)
def copiesValid (hosts : Int) (ps : List PlacedD) : Bool := decide (ps.length ≤ 4000) && allN (copyOk hosts ps) ps.length && decide ((apexesN ps ps.length).length ≤ 500)
def rootValid (name : Bs) (type life : Int) (ds : List DatumD) (hints : List Int) : Bool :=
 recValid name type life ds && type == 6 && name == [46] && decide (1 ≤ hints.length) && decide (hints.length ≤ 8) && allN (fun i => addrOk (hints.getD i 0)) hints.length
def worldValid (w : WorldD) : Bool := hostsValid w.hosts && copiesValid w.hosts.length w.zones && rootValid w.aname w.atype w.alife w.adata w.hints
def isStopB (p : PlacedD) : Bool := p.sets.length == 0 && !(p.apex == [42] || hasPre p.apex [42,46]) && nameValid p.apex
def putOk (hosts : Int) (ps : List PlacedD) (i : Nat) : Bool :=
 let p := ps.getD i default
 !(decide (p.host < 0) || decide (p.host ≥ hosts) || (mget p.key (pairsN ps i)).getD false || (!isStopB p && !zoneValid p.apex p.sets))
def stageOKB (ps : List PlacedD) (hosts : Int) : Bool := decide (ps.length ≤ 500) && allN (putOk hosts ps) ps.length
end Go.SL
