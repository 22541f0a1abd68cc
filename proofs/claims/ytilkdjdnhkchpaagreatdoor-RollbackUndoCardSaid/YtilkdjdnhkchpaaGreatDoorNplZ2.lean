/- The seat: what is owed of the library, the types of the arguments. -/
import Derived.Test.YtilkdjdnhkchpaaGreatDoorNplZ1
import Derived.Test.YtilkdjdnhkchpaaGreatDoorNplT24
import Derived.Test.YtilkdjdnhkchpaaGreatDoorNplT23
import Derived.Test.YtilkdjdnhkchpaaGreatDoorNplT31
import Derived.Test.YtilkdjdnhkchpaaGreatDoorNplT36
import Derived.Test.YtilkdjdnhkchpaaGreatDoorNplU1
import Derived.Test.YtilkdjdnhkchpaaGreatDoorChecked
import Derived.Lib.Strings
import Derived.Lib.Slices
import Derived.Lib.Walk
import Derived.Lib.Bytealg
namespace Go.Proofs
set_option maxHeartbeats 1000000 in
set_option maxRecDepth 100000 in
theorem Tryz.cmpStr0 (a b : ByteArray) (w : World) :
    Calls Tryz.prog 177 #[.string a, .string b] w fun e w' => e = .returned (.int .i64 (Lib.compareBytes a.data.toList b.data.toList)) ∧ w' = w := by
  go_enter Tryz.func177, Tryz.ntmps177
  go_wp2
  rw [run_callFunc_extern Tryz.func232 (by kernel_rfl) (by kernel_rfl) (by kernel_rfl) (e := Extern.BytealgCompare.compare) (by kernel_rfl), Lib.run_compareString]
  simp only [Result.andThen]
  rw [Oper.upon_value]
  go_wp2
  go_ret
  exact ⟨rfl, rfl⟩
end Go.Proofs
namespace Go.SL
open Go Go.Proofs
theorem cmpBytes_eq : ∀ a b : Bs, Lib.compareBytes a b = cmpBs a b
  | [], [] => rfl
  | [], _ :: _ => rfl
  | _ :: _, [] => by simp [Lib.compareBytes, cmpBs, Op.bytesLess]
  | a :: x, b :: y => by
    have ih := cmpBytes_eq x y
    simp only [Lib.compareBytes, ih, cmpBs, Op.bytesLess]
    by_cases h1 : a < b
    · simp [h1]
    · by_cases h2 : b < a
      · have hne : a ≠ b := by rintro rfl; exact h1 h2
        simp [h1, h2, hne]
      · have he : a = b := by
          apply UInt8.toNat_inj.1
          have g1 : ¬ a.toNat < b.toNat := fun h => h1 (UInt8.lt_iff_toNat_lt.2 h)
          have g2 : ¬ b.toNat < a.toNat := fun h => h2 (UInt8.lt_iff_toNat_lt.2 h)
          omega
        subst he
        simp [h1]
theorem fn105E : theE.fn 105 = 177 := by kernel_rfl
theorem fn7E : theE.fn 7 = 3 := by kernel_rfl
theorem gl75E : theE.gl 75 = 0 := by kernel_rfl
theorem cmpStrT (H : Hp) (a b : Bs) : FnP theE 105 [S a, S b] H (.int .i64 (cmpBs a b)) := by
  intro w hw
  have h := Tryz.cmpStr0 ⟨a.toArray⟩ ⟨b.toArray⟩ w
  rw [fn105E]
  refine Calls.mono (P := Tryz.prog) h ?_
  rintro e w' ⟨he, rfl⟩
  refine ⟨_, H, he, hw, ⟨rfl, rfl, rfl, Nat.le_refl _, fun _ _ _ => rfl, fun b o hb => .inl (by rw [hb]; simp), fun _ _ => rfl⟩, ?_, Hp.le.refl _⟩
  have := cmpBytes_eq a b
  simp only []
  rw [this]
theorem codesE : Codes theE := codesT (fun _H l hl => fn98 c98T l hl) cmpStrT
theorem c8T : chkFunc theE (theE.fn 8) c_law40_example = true := by kernel_rfl
theorem headT (H : Hp) (hB : Base theE H) : FnP theE 0 [] H (.bool true) := fn0 codesE codes2T (fn8 codesE codes2T c8T) hB
def strucL (P : Program) (t : TypeId) : List (Nat × TypeId) := match P.underlying t with
  | some (.struct fs) => fs.toList.map fun f => (f.offset, f.type)
  | _ => []
theorem struc_of {P : Program} {t : TypeId} {l : List (Nat × TypeId)} (h : strucL P t = l) (hl : l ≠ []) : Struc P t l := by
  unfold strucL at h
  split at h
  · rename_i fs hu; exact ⟨fs, hu, h⟩
  · exact absurd h.symm hl
noncomputable def tys : Tys Tryz.prog where
  string := 9
  int := 3
  u64 := 111
  datum := 82
  datums := 24
  sig := 113
  sigs := 85
  set := 26
  signed := 87
  signeds := 45
  zone := 47
  placed := 49
  placeds := 23
  host := 63
  hosts := 22
  ints := 27
  world := 29
  stage := 31
  hstring := by kernel_rfl
  hint := by kernel_rfl
  hu64 := by kernel_rfl
  hdatums := by kernel_rfl
  hsigs := by kernel_rfl
  hsigneds := by kernel_rfl
  hplaceds := by kernel_rfl
  hhosts := by kernel_rfl
  hints := by kernel_rfl
  hdatum := struc_of (by kernel_rfl) (by simp)
  hsig := struc_of (by kernel_rfl) (by simp)
  hset := struc_of (by kernel_rfl) (by simp)
  hsigned := struc_of (by kernel_rfl) (by simp)
  hzone := struc_of (by kernel_rfl) (by simp)
  hplaced := struc_of (by kernel_rfl) (by simp)
  hhost := struc_of (by kernel_rfl) (by simp)
  hworld := struc_of (by kernel_rfl) (by simp)
  hstage := struc_of (by kernel_rfl) (by simp)
  cstring := by kernel_rfl
  cint := by kernel_rfl
  cu64 := by kernel_rfl
  cdatums := by kernel_rfl
  csigs := by kernel_rfl
  csigneds := by kernel_rfl
  cplaceds := by kernel_rfl
  chosts := by kernel_rfl
  cints := by kernel_rfl
  cdatum := by kernel_rfl
  csig := by kernel_rfl
  cset := by kernel_rfl
  csigned := by kernel_rfl
  czone := by kernel_rfl
  cplaced := by kernel_rfl
  chost := by kernel_rfl
  cworld := by kernel_rfl
  cstage := by kernel_rfl
noncomputable def ruleTy : RuleTy Tryz.prog where
  arr := 175
  rule := 174
  int := 3
  bool := 4
  harr := by kernel_rfl
  hrule := struc_of (by kernel_rfl) (by simp)
  hint := by kernel_rfl
  hbool := by kernel_rfl
  carr := by kernel_rfl
  crule := by kernel_rfl
  cint := by kernel_rfl
  cbool := by kernel_rfl
/-- the law's function, at any arguments in any memory that holds the table -/
theorem lawT {H : Hp} (hB : Base theE H) {v vp : Value} {w : WorldD} {ps : List PlacedD} (hw : WorldAt H v w) (hp : PutsAt H vp ps) : FnP theE 7 [v, .agg #[vp]] H (.bool true) :=
  fn7 codesE headT (fun _ _ _ _ _ => fn5 codesE) hB hw hp
end Go.SL
