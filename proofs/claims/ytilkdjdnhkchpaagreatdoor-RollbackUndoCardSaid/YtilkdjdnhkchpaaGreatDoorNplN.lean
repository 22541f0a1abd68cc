/- Data in memory: strings, slices of structs, maps; how they stand in rows. -/
import Derived.Test.YtilkdjdnhkchpaaGreatDoorNplK
namespace Go.SL
open Go

abbrev Bs := List UInt8
abbrev S (l : Bs) : Value := .string ⟨l.toArray⟩

theorem S_size (l : Bs) : (⟨l.toArray⟩ : ByteArray).size = l.length := by simp [ByteArray.size]
theorem S_data (l : Bs) : (⟨l.toArray⟩ : ByteArray).data.toList = l := by simp
theorem S_extract (l : Bs) (i j : Nat) : (⟨l.toArray⟩ : ByteArray).extract i j = ⟨((l.drop i).take (j - i)).toArray⟩ := by
  apply ByteArray.ext
  simp [ByteArray.data_extract]
theorem S_eta (b : ByteArray) : b = ⟨b.data.toList.toArray⟩ := by cases b; simp
theorem strOf_S (l : Bs) : strOf (S l) = l := by simp [strOf]

theorem getD_of_take {vs r : List Value} {o sz j : Nat} (h : (vs.drop o).take sz = r) (hj : j < sz) : vs.getD (o + j) undef = r.getD j undef := by
  subst h
  simp only [List.getD_eq_getElem?_getD, List.getElem?_take, hj, if_true, List.getElem?_drop]
theorem take_of_take {vs r : List Value} {o sz : Nat} (h : (vs.drop o).take sz = r) (j m : Nat) (hj : j + m ≤ sz) : (vs.drop (o + j)).take m = (r.drop j).take m := by
  subst h
  rw [List.drop_take, List.take_take, List.drop_drop, Nat.min_eq_left (by omega)]

/-- A slice of n elements of sz cells, and the cells of each. -/
def SlAt (H : Hp) (sz : Nat) (v : Value) (n : Nat) (row : Nat → List Value) : Prop :=
  ∃ a cap, v = .slice a n cap ∧ (a = none → n = 0) ∧
    (0 < n → ∃ b o vs c wr, a = some ⟨b, o, none⟩ ∧ H b = some (.row vs c wr) ∧ ∀ i, i < n → o + i * sz + sz ≤ vs.length ∧ (vs.drop (o + i * sz)).take sz = row i)

theorem SlAt.mono {H H' : Hp} {sz : Nat} {v : Value} {n : Nat} {row : Nat → List Value} (h : SlAt H sz v n row) (hl : H.le H') : SlAt H' sz v n row := by
  obtain ⟨a, cap, hv, hs, hr⟩ := h
  refine ⟨a, cap, hv, hs, fun hn => ?_⟩
  obtain ⟨b, o, vs, c, wr, ha, hb, hi⟩ := hr hn
  exact ⟨b, o, vs, c, wr, ha, hl _ _ hb, hi⟩
theorem SlAt.row_congr {H : Hp} {sz : Nat} {v : Value} {n : Nat} {row row' : Nat → List Value} (h : SlAt H sz v n row) (he : ∀ i, i < n → row i = row' i) : SlAt H sz v n row' := by
  obtain ⟨a, cap, hv, hs, hr⟩ := h
  refine ⟨a, cap, hv, hs, fun hn => ?_⟩
  obtain ⟨b, o, vs, c, wr, ha, hb, hi⟩ := hr hn
  exact ⟨b, o, vs, c, wr, ha, hb, fun i h => ⟨(hi i h).1, (hi i h).2.trans (he i h)⟩⟩
theorem SlAt.nil {H : Hp} {sz : Nat} {row : Nat → List Value} : SlAt H sz (.slice none 0 0) 0 row := ⟨none, 0, rfl, (fun _ => rfl), fun h => absurd h (Nat.lt_irrefl 0)⟩

structure DatumD where
  text : Bs
  n : Int
  m : Int
  deriving DecidableEq, Inhabited
structure SigD where
  zone : Bs
  key : Int
  alg : Int
  from_ : Int
  till : Int
  sum : Int
  deriving DecidableEq, Inhabited
structure SignedD where
  name : Bs
  type : Int
  life : Int
  data : List DatumD
  sigs : List SigD
  deriving DecidableEq, Inhabited
structure PlacedD where
  host : Int
  apex : Bs
  sets : List SignedD
  deriving DecidableEq, Inhabited
structure HostD where
  name : Bs
  addr : Int
  owner : Int
  deriving DecidableEq, Inhabited
structure WorldD where
  hosts : List HostD
  zones : List PlacedD
  aname : Bs
  atype : Int
  alife : Int
  adata : List DatumD
  hints : List Int
  deriving DecidableEq, Inhabited

def rDatum (ds : List DatumD) (i : Nat) : List Value := [S (ds.getD i default).text, .int .i64 (ds.getD i default).n, .int .i64 (ds.getD i default).m]
def rSig (gs : List SigD) (i : Nat) : List Value := [S (gs.getD i default).zone, .int .i64 (gs.getD i default).key, .int .i64 (gs.getD i default).alg, .int .i64 (gs.getD i default).from_, .int .i64 (gs.getD i default).till, .int .u64 (gs.getD i default).sum]
def rHost (hs : List HostD) (i : Nat) : List Value := [S (hs.getD i default).name, .int .i64 (hs.getD i default).addr, .int .i64 (hs.getD i default).owner]
def rInt (ns : List Int) (i : Nat) : List Value := [.int .i64 (ns.getD i 0)]
def rSigned (ss : List SignedD) (d g : Nat → Value) (i : Nat) : List Value := [S (ss.getD i default).name, .int .i64 (ss.getD i default).type, .int .i64 (ss.getD i default).life, d i, g i]
def rPlaced (ps : List PlacedD) (z : Nat → Value) (i : Nat) : List Value := [.int .i64 (ps.getD i default).host, S (ps.getD i default).apex, z i]

def DataAt (H : Hp) (v : Value) (ds : List DatumD) : Prop := SlAt H 3 v ds.length (rDatum ds)
def SigsAt (H : Hp) (v : Value) (gs : List SigD) : Prop := SlAt H 6 v gs.length (rSig gs)
def HostsAt (H : Hp) (v : Value) (hs : List HostD) : Prop := SlAt H 3 v hs.length (rHost hs)
def IntsAt (H : Hp) (v : Value) (ns : List Int) : Prop := SlAt H 1 v ns.length (rInt ns)
def SetsAt (H : Hp) (v : Value) (ss : List SignedD) : Prop := ∃ d g, SlAt H 5 v ss.length (rSigned ss d g) ∧ ∀ i, i < ss.length → DataAt H (d i) (ss.getD i default).data ∧ SigsAt H (g i) (ss.getD i default).sigs
def PutsAt (H : Hp) (v : Value) (ps : List PlacedD) : Prop := ∃ z, SlAt H 3 v ps.length (rPlaced ps z) ∧ ∀ i, i < ps.length → SetsAt H (z i) (ps.getD i default).sets

section
variable {H H' : Hp} {v : Value}
theorem DataAt.mono {ds : List DatumD} (h : DataAt H v ds) (hl : H.le H') : DataAt H' v ds := SlAt.mono h hl
theorem SigsAt.mono {gs : List SigD} (h : SigsAt H v gs) (hl : H.le H') : SigsAt H' v gs := SlAt.mono h hl
theorem HostsAt.mono {hs : List HostD} (h : HostsAt H v hs) (hl : H.le H') : HostsAt H' v hs := SlAt.mono h hl
theorem IntsAt.mono {ns : List Int} (h : IntsAt H v ns) (hl : H.le H') : IntsAt H' v ns := SlAt.mono h hl
theorem SetsAt.mono {ss : List SignedD} (h : SetsAt H v ss) (hl : H.le H') : SetsAt H' v ss := by
  obtain ⟨d, g, h1, h2⟩ := h
  exact ⟨d, g, h1.mono hl, fun i hi => ⟨(h2 i hi).1.mono hl, (h2 i hi).2.mono hl⟩⟩
theorem PutsAt.mono {ps : List PlacedD} (h : PutsAt H v ps) (hl : H.le H') : PutsAt H' v ps := by
  obtain ⟨z, h1, h2⟩ := h
  exact ⟨z, h1.mono hl, fun i hi => (h2 i hi).mono hl⟩
end

/-! ### Heaps -/
theorem le_put {H : Hp} {b : Nat} (h : H b = none) (o : AObj) : H.le (H.put b o) := Hp.le.put h
theorem put_put (H : Hp) (b : Nat) (o o' : AObj) : (H.put b o).put b o' = H.put b o' := by
  funext c
  simp only [Hp.put]
  split <;> rfl
theorem le_put_of_le {H0 H : Hp} {b : Nat} (h : H0.le H) (hb : H0 b = none) (o : AObj) : H0.le (H.put b o) := fun c p hc => by
  rw [Hp.put_ne]
  · exact h c p hc
  · rintro rfl; rw [hb] at hc; cases hc

/-! ### Maps -/
/-- what a map holds: keys and values -/
def MapAt (H : Hp) (m : Nat) (l : List (Value × Value)) : Prop := ∃ es clock, H m = some (.obj (.map es clock)) ∧ es.toList.map (fun e => (e.key, e.val)) = l

section
variable {κ ν : Type} [DecidableEq κ]
def mget (k : κ) : List (κ × ν) → Option ν
  | [] => none
  | (k', v) :: r => if k = k' then some v else mget k r
def mput (k : κ) (v : ν) : List (κ × ν) → List (κ × ν)
  | [] => [(k, v)]
  | (k', v') :: r => if k = k' then (k, v) :: r else (k', v') :: mput k v r
theorem mget_mput (k k' : κ) (v : ν) (l : List (κ × ν)) : mget k' (mput k v l) = if k' = k then some v else mget k' l := by
  induction l with
  | nil => simp [mput, mget]
  | cons e r ih =>
    obtain ⟨j, u⟩ := e
    simp only [mput]
    by_cases h : k = j
    · subst h
      by_cases h' : k' = k
      · simp [mget, h']
      · simp [mget, h']
    · simp only [if_neg h, mget, ih]
      by_cases h' : k' = j
      · subst h'
        simp [Ne.symm h]
      · simp [h']

theorem mfind_enc {ag : Bool} {ks : List Kd} {enc : κ → Value} {encv : ν → Value} (hk : ∀ a b, keyEq ag ks (enc a) (enc b) = some (decide (a = b))) (k : κ) :
    ∀ (es : List MapEntry) (l : List (κ × ν)) (i : Nat), es.map (fun e => (e.key, e.val)) = l.map (fun e => (enc e.1, encv e.2)) →
      (mget k l = none → mfind ag ks (enc k) es i = some none) ∧
      (∀ v, mget k l = some v → ∃ j, i ≤ j ∧ mfind ag ks (enc k) es i = some (some (j, encv v)) ∧
        ∀ (f : MapEntry → MapEntry) (u : ν), (∀ e, (f e).key = enc k ∧ (f e).val = encv u) → (es.modify (j - i) f).map (fun e => (e.key, e.val)) = (mput k u l).map (fun e => (enc e.1, encv e.2)))
  | [], [], i, _ => ⟨fun _ => rfl, fun v h => by cases h⟩
  | [], _ :: _, i, h => by simp at h
  | _ :: _, [], i, h => by simp at h
  | e :: es, (k', u') :: l, i, h => by
    simp only [List.map_cons, List.cons.injEq, Prod.mk.injEq] at h
    obtain ⟨⟨h1, h2⟩, h3⟩ := h
    have ih := mfind_enc hk k es l (i + 1) h3
    simp only [mget, mfind, h1, hk, mput]
    by_cases hkk : k = k'
    · subst hkk
      refine ⟨fun h => by simp at h, fun v hv => ⟨i, Nat.le_refl _, ?_, fun f u hf => ?_⟩⟩
      · simp only [if_true, Option.some.injEq] at hv
        subst hv
        simp [h2]
      · simp [hf e, h3]
    · simp only [hkk, if_false, decide_false]
      refine ⟨ih.1, fun v hv => ?_⟩
      obtain ⟨j, hj, hm, hmod⟩ := ih.2 v hv
      refine ⟨j, by omega, hm, fun f u hf => ?_⟩
      have e1 : j - i = (j - (i + 1)) + 1 := by omega
      rw [e1]
      simp only [List.modify_succ_cons, List.map_cons, hmod f u hf, h1, h2]
end

section
variable {E : Env} {fr : Fr} {H : Hp} {Q : X → Fr → Hp → Prop} {k : List Item} {κ ν : Type} [DecidableEq κ]

theorem vks_look {d : Option Nat} {ag : Bool} {ks : List Kd} {zero : Value} {ok : Bool} {m x : Arg} {r : List AOper} {live : List Nat} {enc : κ → Value} {encv : ν → Value} {l : List (κ × ν)} {b : Nat}
    (key : κ) (hk : ∀ a b, keyEq ag ks (enc a) (enc b) = some (decide (a = b))) (hki : keyIs ag ks (enc key)) (h1 : vok fr m) (h2 : vok fr x) (hm : vo E fr m = .map (some b)) (hx : vo E fr x = enc key)
    (hM : MapAt H b (l.map fun e => (enc e.1, encv e.2)))
    (h : vks E (.ops r live :: k) (setD fr d ⟨true, .val (if ok then .tuple #[((mget key l).map encv).getD zero, .bool (mget key l).isSome] else ((mget key l).map encv).getD zero)⟩) H Q) :
    vks E (.ops (⟨d, .look ag ks zero ok m x, none⟩ :: r) live :: k) fr H Q := by
  obtain ⟨es, clock, hH, he⟩ := hM
  simp only [vks, evs, ev1, gok, gcond, big] at h ⊢
  refine ⟨trivial, fun _ => ⟨h1, h2, by rw [hx]; exact hki, ?_⟩, fun e => by cases e⟩
  have hf := mfind_enc hk key es.toList l 0 he
  simp only [hm, hH, hx]
  cases hg : mget key l with
  | none =>
    rw [hf.1 hg]
    simpa [hg] using h
  | some v =>
    obtain ⟨j, _, hj, _⟩ := hf.2 v hg
    rw [hj]
    simpa [hg] using h

theorem vks_upd {d : Option Nat} {ag : Bool} {ks : List Kd} {m x y : Arg} {r : List AOper} {live : List Nat} {enc : κ → Value} {encv : ν → Value} {l : List (κ × ν)} {b : Nat}
    (key : κ) (val : ν) (hk : ∀ a b, keyEq ag ks (enc a) (enc b) = some (decide (a = b))) (hki : keyIs ag ks (enc key)) (h1 : vok fr m) (h2 : vok fr x) (h3 : vok fr y) (hm : vo E fr m = .map (some b)) (hx : vo E fr x = enc key) (hy : vo E fr y = encv val)
    (hM : MapAt H b (l.map fun e => (enc e.1, encv e.2)))
    (h : ∀ o, (∀ H', MapAt (Hp.put H' b o) b ((mput key val l).map fun e => (enc e.1, encv e.2))) → vks E (.ops r live :: k) (setD fr d ⟨true, .val undef⟩) (H.put b o) Q) :
    vks E (.ops (⟨d, .upd ag ks m x y, none⟩ :: r) live :: k) fr H Q := by
  obtain ⟨es, clock, hH, he⟩ := hM
  simp only [vks, evs, ev1, gok, gcond, big] at h ⊢
  refine ⟨trivial, fun _ => ⟨h1, h2, h3, by rw [hx]; exact hki, ?_⟩, fun e => by cases e⟩
  have hf := mfind_enc hk key es.toList l 0 he
  simp only [hm, hH, hx, hy]
  cases hg : mget key l with
  | none =>
    rw [hf.1 hg]
    refine h _ fun H' => ⟨_, _, Hp.put_same .., ?_⟩
    have : mput key val l = l ++ [(key, val)] := by
      clear hf h he
      induction l with
      | nil => rfl
      | cons e r ih =>
        obtain ⟨k', u⟩ := e
        simp only [mget] at hg
        split at hg
        · cases hg
        · rename_i hne
          simp [mput, hne, ih hg]
    simp [this, he]
  | some v =>
    obtain ⟨j, _, hj, hmod⟩ := hf.2 v hg
    rw [hj]
    refine h _ fun H' => ⟨_, _, Hp.put_same .., ?_⟩
    have := hmod (fun e => { e with key := enc key, val := encv val }) val (fun e => ⟨rfl, rfl⟩)
    simpa using this
end
end Go.SL

/- What the functions compute: names, records, zones, worlds, in plain Lean. -/
namespace Go.SL
open Go

def allN (P : Nat → Bool) : Nat → Bool
  | 0 => true
  | n + 1 => allN P n && P n
theorem allN_false {P : Nat → Bool} {n k : Nat} (hk : k < n) (h : P k = false) : allN P n = false := by
  induction n with
  | zero => omega
  | succ n ih =>
    simp only [allN]
    by_cases e : k = n
    · subst e; simp [h]
    · simp [ih (by omega)]
theorem allN_iff {P : Nat → Bool} {n : Nat} : allN P n = true ↔ ∀ k, k < n → P k = true := by
  induction n with
  | zero => simp [allN]
  | succ n ih =>
    simp only [allN, Bool.and_eq_true, ih]
    constructor
    · rintro ⟨h, hn⟩ k hk
      by_cases e : k = n
      · subst e; exact hn
      · exact h k (by omega)
    · exact fun h => ⟨fun k hk => h k (by omega), h n (by omega)⟩
theorem allN_succ {P : Nat → Bool} {n : Nat} (h : allN P n = true) (h' : P n = true) : allN P (n + 1) = true := by simp [allN, h, h']
def anyN (P : Nat → Bool) : Nat → Bool
  | 0 => false
  | n + 1 => anyN P n || P n
theorem anyN_true {P : Nat → Bool} {n k : Nat} (hk : k < n) (h : P k = true) : anyN P n = true := by
  induction n with
  | zero => omega
  | succ n ih =>
    simp only [anyN]
    by_cases e : k = n
    · subst e; simp [h]
    · simp [ih (by omega)]

/-! ### Names -/
def lastIxN (c : UInt8) (l : Bs) : Nat → Option Nat
  | 0 => none
  | k + 1 => if l.getD k 0 = c then some k else lastIxN c l k
def lastIx (c : UInt8) (l : Bs) : Option Nat := lastIxN c l l.length
theorem lastIxN_lt {c : UInt8} {l : Bs} {k i : Nat} (h : lastIxN c l k = some i) : i < k := by
  induction k with
  | zero => cases h
  | succ k ih =>
    simp only [lastIxN] at h
    split at h
    · cases h; omega
    · have := ih h; omega
theorem lastIx_lt {c : UInt8} {l : Bs} {i : Nat} (h : lastIx c l = some i) : i < l.length := lastIxN_lt h
/-- the index, or -1 -/
def ixI (o : Option Nat) : Int := match o with
  | none => -1
  | some i => i

def labF : Nat → Bs → List Bs
  | 0, _ => []
  | n + 1, l => match lastIx 46 l with
    | none => [l]
    | some i => l.drop (i + 1) :: labF n (l.take i)
def labs (l : Bs) : List Bs := if l = [46] then [] else labF (l.length + 1) l

/-- a byte as a number -/
def bI (l : Bs) (i : Nat) : Int := (l.getD i 0).toNat
def okc (c : Int) : Bool := !((decide (c < 97) || decide (c > 122)) && (decide (c < 48) || decide (c > 57)) && (c != 45))
def isLabelB (l : Bs) : Bool := !(decide ((l.length : Int) < 1) || decide ((l.length : Int) > 12) || bI l 0 == 45 || bI l (l.length - 1) == 45) && allN (fun i => okc (bI l i)) l.length

/-- the labels, how many were met, whether the last one was the star -/
def validGo : List Bs → Nat → Bool → Bool
  | [], _, _ => true
  | x :: r, c, w => if w || decide (c + 1 > 8) then false else if !(x == [42]) && !isLabelB x then false else validGo r (c + 1) (x == [42])
def nameValid (l : Bs) : Bool := l == [46] || (decide (l.length ≤ 60) && validGo (labs l) 0 false)

def hasPre (s p : Bs) : Bool := decide (p.length ≤ s.length) && s.take p.length == p
def hasSuf (s p : Bs) : Bool := decide (p.length ≤ s.length) && s.drop (s.length - p.length) == p

def underB (s z : Bs) : Bool := nameValid s && nameValid z && (s == z || z == [46] || (decide (z.length < s.length) && hasSuf s z && bI s (s.length - z.length - 1) == 46))
def underE (s z : Bs) : Int := if nameValid s && nameValid z then 0 else 11

def cmpBs (x y : Bs) : Int := if Op.bytesLess x y then -1 else if x = y then 0 else 1
def cmpInt (x y : Int) : Int := if x < y then -1 else if x > y then 1 else 0
def cmpL : List Bs → List Bs → Int
  | [], _ => -1
  | _ :: _, [] => 1
  | x :: r, y :: r' => if cmpBs x y ≠ 0 then cmpBs x y else cmpL r r'
def nameCmp (a b : Bs) : Int := if nameValid a && nameValid b then (if a = b then 0 else cmpL (labs a) (labs b)) else 0
def nameCmpE (a b : Bs) : Int := if nameValid a && nameValid b then 0 else 11
def cmpPl (a : Bs) (s : Int) (b : Bs) (t : Int) : Int := if a = b then cmpInt s t else nameCmp a b

/-! ### Records -/
structure Rule where
  text : Int
  leastN : Int
  mostN : Int
  leastM : Int
  mostM : Int
  even : Bool
  single : Bool
  wild : Bool
  deriving Inhabited
def rules : List Rule := [⟨0, 0, 0, 0, 0, false, false, false⟩, ⟨0, 1, 1000000, 0, 0, false, false, true⟩, ⟨1, 0, 0, 0, 0, false, false, false⟩, ⟨1, 0, 0, 0, 0, false, true, false⟩, ⟨0, 0, 65535, 0, 100000, false, true, false⟩,
  ⟨3, 0, 0, 0, 0, false, false, true⟩, ⟨0, 1, 1000000, 1, 3, false, false, false⟩, ⟨0, 1, 1000000, 1, 3, false, false, false⟩, ⟨2, 2, 510, 0, 0, true, false, true⟩]
def rRule (r : Rule) : List Value := [.int .i64 r.text, .int .i64 r.leastN, .int .i64 r.mostN, .int .i64 r.leastM, .int .i64 r.mostM, .bool r.even, .bool r.single, .bool r.wild]
def rulesCells : List Value := (rules.map rRule).flatten
/-- the package's table lies in memory -/
def Base (E : Env) (H : Hp) : Prop := ∃ cap wr, H (E.gl 75) = some (.row rulesCells cap wr)
theorem Base.mono {E : Env} {H H' : Hp} (h : Base E H) (hl : H.le H') : Base E H' := by
  obtain ⟨cap, wr, h⟩ := h
  exact ⟨cap, wr, hl _ _ h⟩

def withinI (x lo hi : Int) : Bool := decide (lo ≤ x) && decide (x ≤ hi)
def isWildB (s : Bs) : Bool := hasPre s [42]
def isFreeB (s : Bs) : Bool := !(!withinI s.length 1 40 || bI s 0 == 32 || bI s (s.length - 1) == 32) && allN (fun i => !(!withinI (bI s i) 97 122 && !withinI (bI s i) 48 57 && bI s i != 32)) s.length
def textOk (k : Int) (s : Bs) : Bool := if k = 1 then nameValid s && !isWildB s else if k = 2 then nameValid s else if k = 3 then isFreeB s else s == []
def validDatum (r : Rule) (d : DatumD) : Bool := !(!withinI d.n r.leastN r.mostN || !withinI d.m r.leastM r.mostM || (r.even && d.n.tmod 2 != 0)) && textOk r.text d.text
def cmpDatum (a b : DatumD) : Int := if cmpBs a.text b.text ≠ 0 then cmpBs a.text b.text else if cmpInt a.n b.n ≠ 0 then cmpInt a.n b.n else cmpInt a.m b.m
def recValid (name : Bs) (type life : Int) (ds : List DatumD) : Bool :=
  nameValid name && withinI type 1 8 && withinI life 0 100000 && withinI ds.length 1 8 &&
  !((rules.getD type.toNat default).single && ds.length != 1) && !(isWildB name && !(rules.getD type.toNat default).wild) &&
  allN (fun i => validDatum (rules.getD type.toNat default) (ds.getD i default) && !(decide (0 < i) && decide (cmpDatum (ds.getD (i - 1) default) (ds.getD i default) ≥ 0))) ds.length

/-! ### Zones -/
section
variable (apex : Bs) (ss : List SignedD)
def sAt (i : Nat) : SignedD := ss.getD i default
def orderedB : Bool := !(!nameValid apex || hasPre apex [42] || decide (ss.length > 20000)) && allN (fun i => recValid (sAt ss i).name (sAt ss i).type (sAt ss i).life (sAt ss i).data && underB (sAt ss i).name apex &&
  (i == 0 || !decide (cmpPl (sAt ss (i - 1)).name (sAt ss (i - 1)).type (sAt ss i).name (sAt ss i).type ≥ 0))) ss.length
/-- the binary search -/
def bsGo (c : Nat → Int) : Nat → Nat → Nat → Nat
  | 0, i, _ => i
  | f + 1, i, j => if i < j then (if c ((i + j) / 2) < 0 then bsGo c f ((i + j) / 2 + 1) j else bsGo c f i ((i + j) / 2)) else i
def findI (n : Bs) (t : Int) : Nat := bsGo (fun h => cmpPl (sAt ss h).name (sAt ss h).type n t) (ss.length + 1) 0 ss.length
def findB (n : Bs) (t : Int) : Bool := decide (findI ss n t < ss.length) && cmpPl (sAt ss (findI ss n t)).name (sAt ss (findI ss n t)).type n t == 0
def fitsApexB (t : Int) (at_ : Bool) : Bool := if t = 3 ∨ t = 6 then !at_ else if t = 4 ∨ t = 7 then at_ else true
def apexHoldsB : Bool := findB ss apex 4 && findB ss apex 2 && allN (fun i => fitsApexB (sAt ss i).type ((sAt ss i).name == apex)) ss.length
/-- the cuts among the first k sets (a map's keys) -/
def cutsN : Nat → List (Bs × Bool)
  | 0 => []
  | k + 1 => if (sAt ss k).type = 2 ∧ (sAt ss k).name ≠ apex then mput (sAt ss k).name true (cutsN k) else cutsN k
def cutStep (cuts : List (Bs × Bool)) (cut n : Bs) : Bs :=
  let c := if cut ≠ [] ∧ underB n cut = false then [] else cut
  if c = [] ∧ (mget n cuts).getD false = true then n else c
def cutN : Nat → Bs
  | 0 => []
  | k + 1 => cutStep (cutsN apex ss ss.length) (cutN k) (sAt ss k).name
def behind (i : Nat) : Bs := cutN apex ss (i + 1)
def aliasesB : Bool := allN (fun i => (sAt ss i).type != 3 || (!(decide (0 < i) && (sAt ss (i - 1)).name == (sAt ss i).name) && !(decide (i + 1 < ss.length) && (sAt ss (i + 1)).name == (sAt ss i).name && (sAt ss (i + 1)).type != 8))) ss.length
def cutOk (b n : Bs) (t : Int) : Bool := if b = [] then t != 6 else if b = n then !(t != 2 && t != 6 && t != 8 && t != 1) else t == 1
def cutsB : Bool := allN (fun i => cutOk (behind apex ss i) (sAt ss i).name (sAt ss i).type) ss.length
def sigsB : Bool := allN (fun i => !((behind apex ss i != [] && ((sAt ss i).type == 2 || (sAt ss i).type == 1)) && decide ((sAt ss i).sigs.length > 0))) ss.length
def sigOk (gs : List SigD) (i : Nat) : Bool :=
  let g := gs.getD i default
  !(g.zone != apex || decide (g.key < 1) || decide (g.key > 1000000) || decide (g.alg < 1) || decide (g.alg > 3)) &&
  !(decide (g.from_ < 0) || decide (g.from_ > g.till) || decide (g.till > 20000000)) &&
  !(decide (0 < i) && (g.from_ != (gs.getD 0 default).from_ || g.till != (gs.getD 0 default).till || decide (g.key ≤ (gs.getD (i - 1) default).key)))
def inFormB (gs : List SigD) : Bool := decide (gs.length ≤ 6) && allN (sigOk apex gs) gs.length
def formB : Bool := allN (fun i => inFormB apex (sAt ss i).sigs) ss.length
def zoneValid : Bool := orderedB apex ss && apexHoldsB apex ss && aliasesB ss && cutsB apex ss && sigsB apex ss && formB apex ss
end

/-! ### Worlds -/
def wildcardB (s : Bs) : Bool := nameValid s && (match (labs s).reverse with
  | [] => false
  | x :: _ => x == [42])
def addrOk (n : Int) : Bool := decide (n ≥ 1) && decide (n ≤ 1000000)
/-- the first k keys (of a map) -/
def keysN {κ : Type} [DecidableEq κ] (f : Nat → κ) : Nat → List (κ × Bool)
  | 0 => []
  | k + 1 => mput (f k) true (keysN f k)
def addrsN (hs : List HostD) : Nat → List (Int × Bool) := keysN fun k => (hs.getD k default).addr
def hostOk (hs : List HostD) (i : Nat) : Bool :=
  let h := hs.getD i default
  !(!nameValid h.name || wildcardB h.name || decide (h.owner < 0) || decide (h.owner ≥ 32)) && !(!addrOk h.addr || (mget h.addr (addrsN hs i)).getD false)
def hostsValid (hs : List HostD) : Bool := decide (hs.length ≤ 64) && allN (hostOk hs) hs.length
abbrev Pair := Int × Bs
def PlacedD.key (p : PlacedD) : Pair := (p.host, p.apex)
def pairsN (ps : List PlacedD) : Nat → List (Pair × Bool) := keysN fun k => (ps.getD k default).key
def apexesN (ps : List PlacedD) : Nat → List (Bs × Bool) := keysN fun k => (ps.getD k default).apex
def copyOk (hosts : Int) (ps : List PlacedD) (i : Nat) : Bool :=
  let p := ps.getD i default
  !(decide (p.host < 0) || decide (p.host ≥ hosts) || (mget p.key (pairsN ps i)).getD false || !zoneValid p.apex p.sets)
def copiesValid (hosts : Int) (ps : List PlacedD) : Bool := decide (ps.length ≤ 4000) && allN (copyOk hosts ps) ps.length && decide ((apexesN ps ps.length).length ≤ 500)
def rootValid (name : Bs) (type life : Int) (ds : List DatumD) (hints : List Int) : Bool :=
  recValid name type life ds && type == 6 && name == [46] && decide (1 ≤ hints.length) && decide (hints.length ≤ 8) && allN (fun i => addrOk (hints.getD i 0)) hints.length
def worldValid (w : WorldD) : Bool := hostsValid w.hosts && copiesValid w.hosts.length w.zones && rootValid w.aname w.atype w.alife w.adata w.hints

/-! ### Steps -/
def isStopB (p : PlacedD) : Bool := p.sets.length == 0 && !(p.apex == [42] || hasPre p.apex [42, 46]) && nameValid p.apex
def putOk (hosts : Int) (ps : List PlacedD) (i : Nat) : Bool :=
  let p := ps.getD i default
  !(decide (p.host < 0) || decide (p.host ≥ hosts) || (mget p.key (pairsN ps i)).getD false || (!isStopB p && !zoneValid p.apex p.sets))
def stageOKB (ps : List PlacedD) (hosts : Int) : Bool := decide (ps.length ≤ 500) && allN (putOk hosts ps) ps.length
def tooManyB (ps : List PlacedD) : Bool := decide (ps.length > 4000) || decide ((apexesN ps ps.length).length > 500)
/-- the copies after a stage -/
def afterL (zs ps : List PlacedD) : List PlacedD := zs.filter (fun p => !((mget p.key (pairsN ps ps.length)).getD false)) ++ ps.filter (fun p => !isStopB p)
def worldE (w : WorldD) (ps : List PlacedD) : Int := if worldValid w && stageOKB ps w.hosts.length then (if tooManyB (afterL w.zones ps) then 2 else 0) else 1
def worldOf (w : WorldD) (ps : List PlacedD) : WorldD := { w with zones := afterL w.zones ps }
/-- the copies that a stage mentions, by their numbers (a map) -/
def servedN (zs ps : List PlacedD) : Nat → List (Pair × Nat)
  | 0 => []
  | k + 1 => if anyN (fun i => (ps.getD i default).key == (zs.getD k default).key) ps.length then mput (zs.getD k default).key k (servedN zs ps k) else servedN zs ps k
def undoP (zs ps : List PlacedD) (p : PlacedD) : PlacedD := match mget p.key (servedN zs ps zs.length) with
  | some i => ⟨p.host, (zs.getD i default).apex, (zs.getD i default).sets⟩
  | none => ⟨p.host, p.apex, []⟩
def undoL (zs ps : List PlacedD) : List PlacedD := ps.map (undoP zs ps)
end Go.SL
