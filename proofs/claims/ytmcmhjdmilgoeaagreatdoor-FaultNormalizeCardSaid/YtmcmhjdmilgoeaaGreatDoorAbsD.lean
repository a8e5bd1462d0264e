/- The operations that only read, third part: slicing, equality of structs, conversions, built-ins; and all in one function. -/
import Derived.Test.YtmcmhjdmilgoeaaGreatDoorAbsC
import Derived.Laws.Slices
import Derived.Laws.StructEq
import Derived.Laws.BytesString
import Derived.Lib.MinMax
namespace Go.Abs
open Go

/-! ### Slicing -/
def bnd : Option V → Option (Option Int)
  | none => some none
  | some (.int _ n) => some (some n)
  | _ => none

/-- low, high, maximum against a length 'n' (and, for a string, a capacity 'n'): the new low and high, and what must hold. -/
def bnds (n : Nat) (lo hi mx : Option Int) : Nat × Nat × Prop :=
  match lo, hi, mx with
  | none, none, none => (0, n, True)
  | some a, none, none => (a.toNat, n, 0 ≤ a ∧ a ≤ n)
  | none, some b, none => (0, b.toNat, 0 ≤ b ∧ b ≤ n)
  | some a, some b, none => (a.toNat, b.toNat, 0 ≤ a ∧ a ≤ b ∧ b ≤ n)
  | some a, some b, some c => (a.toNat, b.toNat, 0 ≤ a ∧ a ≤ b ∧ b ≤ c ∧ c ≤ n)
  | none, some b, some c => (0, b.toNat, 0 ≤ b ∧ b ≤ c ∧ c ≤ n)
  | _, none, some _ => (0, 0, False)

theorem run_sliceBounds {P : Program} {w : World} {St : Nat → Prop} {g : Gh} {s : Bool} {n cap : Nat} (hcap : n ≤ cap) {lo hi mx : Option V} {l h m : Option Int}
    (hl : bnd lo = some l) (hh : bnd hi = some h) (hm : bnd mx = some m) {x y z : Option Value}
    (rx : ∀ v, lo = some v → ∃ u, x = some u ∧ Rel St w g v u) (ry : ∀ v, hi = some v → ∃ u, y = some u ∧ Rel St w g v u) (rz : ∀ v, mx = some v → ∃ u, z = some u ∧ Rel St w g v u)
    (nx : lo = none → x = none) (ny : hi = none → y = none) (nz : mx = none → z = none)
    (hφ : (bnds n l h m).2.2) : ∃ c, (Instr.sliceBounds s n cap x y z).run P w = .ok ((bnds n l h m).1, (bnds n l h m).2.1, c) w ∧ (bnds n l h m).1 ≤ (bnds n l h m).2.1 ∧ (bnds n l h m).2.1 ≤ n ∧ (bnds n l h m).2.1 ≤ c ∧ (mx = none → c = cap) := by
  have inv : ∀ {o : Option V} {i : Option Int} {u : Option Value}, bnd o = some i → (∀ v, o = some v → ∃ t, u = some t ∧ Rel St w g v t) → (o = none → u = none) →
      (i = none ∧ o = none ∧ u = none) ∨ ∃ k a, i = some a ∧ (∃ k', o = some (.int k' a)) ∧ u = some (.int k a) := by
    intro o i u ho hr hn
    cases o with
    | none => simp [bnd] at ho; exact .inl ⟨ho.symm, rfl, hn rfl⟩
    | some v =>
      cases v <;> simp [bnd] at ho
      case int k a =>
        obtain ⟨t, ht, hrel⟩ := hr _ rfl
        have := hrel.int_inv; subst this
        exact .inr ⟨k, a, ho.symm, ⟨k, rfl⟩, ht⟩
  rcases inv hl rx nx with ⟨rfl, rfl, rfl⟩ | ⟨k1, a, rfl, ⟨_, rfl⟩, rfl⟩ <;>
  rcases inv hh ry ny with ⟨rfl, rfl, rfl⟩ | ⟨k2, b, rfl, ⟨_, rfl⟩, rfl⟩ <;>
  rcases inv hm rz nz with ⟨rfl, rfl, rfl⟩ | ⟨k3, c, rfl, ⟨_, rfl⟩, rfl⟩ <;>
  simp only [bnds] at hφ ⊢
  case inl.inl.inl => exact ⟨cap, by simp [Instr.sliceBounds], by omega, by omega, by omega, fun _ => rfl⟩
  case inr.inl.inl =>
    refine ⟨cap, ?_, by omega, by omega, by omega, fun _ => rfl⟩
    simp [Instr.sliceBounds, run_sliceBound _ _ _ _ _ hφ.1 hφ.2]
  case inl.inr.inl =>
    refine ⟨cap, ?_, by omega, by omega, by omega, fun _ => rfl⟩
    simp [Instr.sliceBounds, run_sliceBound _ _ _ _ _ hφ.1 (show b ≤ (cap : Int) by omega)]
  case inr.inr.inl =>
    refine ⟨cap, ?_, by omega, by omega, by omega, fun _ => rfl⟩
    have e : (b.toNat : Int) = b := Int.toNat_of_nonneg (by omega)
    simp [Instr.sliceBounds, run_sliceBound _ _ _ _ _ (show 0 ≤ b by omega) (show b ≤ (cap : Int) by omega), run_sliceBound _ _ _ _ _ hφ.1 (show a ≤ (b.toNat : Int) by omega)]
  case inl.inr.inr =>
    refine ⟨c.toNat, ?_, by omega, by omega, by omega, by simp⟩
    simp [Instr.sliceBounds, run_sliceBound _ _ _ _ _ (show 0 ≤ c by omega) (show c ≤ (cap : Int) by omega), run_sliceBound _ _ _ _ _ hφ.1 (show b ≤ (c.toNat : Int) by omega)]
  case inr.inr.inr =>
    refine ⟨c.toNat, ?_, by omega, by omega, by omega, by simp⟩
    simp [Instr.sliceBounds, run_sliceBound _ _ _ _ _ (show 0 ≤ c by omega) (show c ≤ (cap : Int) by omega), run_sliceBound _ _ _ _ _ (show 0 ≤ b by omega) (show b ≤ (c.toNat : Int) by omega), run_sliceBound _ _ _ _ _ hφ.1 (show a ≤ (b.toNat : Int) by omega)]

def subStr (l : List UInt8) (lo hi : Option Int) : List UInt8 :=
  match lo, hi with
  | none, none => l
  | some a, none => l.drop a.toNat
  | none, some b => l.take b.toNat
  | some a, some b => (l.take b.toNat).drop a.toNat
def subF (f : Nat → Nat → V) (lo : Option Int) : Nat → Nat → V :=
  match lo with
  | none => f
  | some a => fun i j => f (i + a.toNat) j
def subN (n : Nat) (lo hi : Option Int) : Nat :=
  match lo, hi with
  | none, none => n
  | some a, none => n - a.toNat
  | none, some b => b.toNat
  | some a, some b => b.toNat - a.toNat

def sliceV (P : Program) (t : TypeId) (x : V) (lo hi mx : Option V) : Option (V × Prop) :=
  match P.underlying t, x, bnd lo, bnd hi, bnd mx with
  | some .string, .str l, some a, some b, some none => some (.str (subStr l a b), (bnds l.length a b none).2.2)
  | some (.slice e), .arr sz n f, some a, some b, some c => if szOf P e = some sz then some (.arr sz (subN n a b) (subF f a), (bnds n a b c).2.2) else none
  | some (.slice e), .nils, some a, some b, some c => match szOf P e with
    | some _ => some (.nils, (bnds 0 a b c).2.2)
    | none => none
  | _, _, _, _, _ => none

theorem run_sliceV {P : Program} {St : Nat → Prop} {w : World} {g : Gh} {t : TypeId} {p v : V} {lo hi mx : Option V} {φ : Prop} {u : Value} {x y z : Option Value}
    (hp : Rel St w g p u) (rx : ∀ v, lo = some v → ∃ u, x = some u ∧ Rel St w g v u) (ry : ∀ v, hi = some v → ∃ u, y = some u ∧ Rel St w g v u) (rz : ∀ v, mx = some v → ∃ u, z = some u ∧ Rel St w g v u)
    (nx : lo = none → x = none) (ny : hi = none → y = none) (nz : mx = none → z = none)
    (hv : sliceV P t p lo hi mx = some (v, φ)) (hφ : φ) : ∃ r, (Instr.sliceAt t u x y z).run P w = .ok r w ∧ Rel St w g v r := by
  unfold sliceV at hv
  split at hv
  · rename_i l a b hu hl hh hm
    cases hv
    obtain ⟨s, rfl, rfl⟩ := hp.str_inv
    have hsz : s.data.toList.length = s.size := by simp
    rw [hsz] at hφ
    have hmx : mx = none := by
      cases mx with
      | none => rfl
      | some v => cases v <;> simp [bnd] at hm
    subst hmx
    obtain rfl := nz rfl
    obtain ⟨c, hrun, h1, h2, h3, h4⟩ := run_sliceBounds (P := P) (s := false) (Nat.le_refl s.size) hl hh hm rx ry rz nx ny nz hφ
    refine ⟨.string (s.extract (bnds s.size a b none).1 (bnds s.size a b none).2.1), ?_, .str _ _ _ ?_⟩
    · rw [run_sliceAt_string _ _ _ _ _ _ hu]
      simp [Instr.slice, run_underlying hu, hrun]
    · have key : ∀ i j, (s.extract i j).data.toList = (s.data.toList.take j).drop i := by
        intro i j
        rw [ByteArray.data_extract, Array.toList_extract, List.extract_eq_take_drop, List.drop_take]
      rw [key]
      have hlen : s.data.toList.take s.size = s.data.toList := List.take_of_length_le (by simp)
      cases a <;> cases b <;> simp [bnds, subStr, hlen]
  · rename_i e sz n f a b c hu hl hh hm
    split at hv
    case isFalse => cases hv
    rename_i hs
    cases hv
    have he : P.elem t = e := by simp [Program.elem, hu]
    have fin : ∀ (lo' : Nat) (hi' : Nat), (bnds n a b c).1 = lo' → (bnds n a b c).2.1 = hi' → subN n a b = hi' - lo' ∧ subF f a = (fun i j => f (i + lo') j) := by
      intro lo' hi' h1 h2
      subst h1; subst h2
      cases a <;> cases b <;> cases c <;> simp [bnds, subN, subF] <;> simp [bnds] at hφ
    obtain ⟨hN, hF⟩ := fin _ _ rfl rfl
    rw [hN, hF]
    cases hp with
    | arr0 =>
      obtain ⟨m, hrun, h1, h2, h3, h4⟩ := run_sliceBounds (P := P) (s := true) (Nat.le_refl 0) hl hh hm rx ry rz nx ny nz hφ
      have e1 : (bnds 0 a b c).2.1 = 0 := by omega
      have e0 : (bnds 0 a b c).1 = 0 := by omega
      refine ⟨.slice none 0 (m - 0), ?_, ?_⟩
      · rw [run_sliceAt_slice _ _ _ _ _ _ (by rw [he]; exact hu)]
        simp [Instr.slice, run_underlying hu, hrun, run_szOf hs, e0, e1]
      · have hm0 : m = 0 := by
          rcases hmx : mx with _ | v
          · exact h4 hmx
          · have := rz v hmx
            cases v <;> simp [hmx, bnd] at hm
            rename_i k i
            subst hm
            obtain ⟨u, hz, hu'⟩ := this
            have := hu'.int_inv; subst this
            subst hz
            have hc0 : 0 ≤ i ∧ i ≤ 0 := by cases a <;> cases b <;> simp [bnds] at hφ <;> omega
            have hi0 : i = 0 := by omega
            subst hi0
            cases hy : y with
            | none => simp [Instr.sliceBounds, hy, run_sliceBound] at hrun
            | some yv => 
              simp [Instr.sliceBounds, hy, run_sliceBound] at hrun
              cases h5 : (Instr.sliceBound yv 0 .slice3B).run P w with
              | halt x1 x2 => simp [h5, Result.andThen] at hrun
              | ok x1 x2 =>
                simp [h5] at hrun
                cases hx : x with
                | none => simp [hx] at hrun; exact hrun.1.2.2.symm
                | some xv =>
                  simp [hx] at hrun
                  cases h6 : (Instr.sliceBound xv x1 .slice3C).run P x2 with
                  | halt x3 x4 => simp [h6, Result.andThen] at hrun
                  | ok x3 x4 => simp [h6] at hrun; exact hrun.1.2.2.symm
        subst hm0
        rw [e0, e1]
        exact .arr0 _ _ _
    | arr _ _ _ _ bb o cap xx hcap hmax hS hc h1c hr =>
      obtain ⟨m, hrun, h1, h2, h3, h4⟩ := run_sliceBounds (P := P) (s := true) hcap hl hh hm rx ry rz nx ny nz hφ
      generalize (bnds n a b c).1 = lo' at *
      generalize (bnds n a b c).2.1 = hi' at *
      refine ⟨.slice (if m = lo' then some ⟨bb, o, none⟩ else some ⟨bb, o + lo' * sz, none⟩) (hi' - lo') (m - lo'), ?_, ?_⟩
      · rw [run_sliceAt_slice _ _ _ _ _ _ (by rw [he]; exact hu)]
        simp [Instr.slice, run_underlying hu, hrun, run_szOf hs, add_plain]
      · by_cases hml : m = lo'
        · rw [if_pos hml]
          have hn0 : hi' - lo' = 0 := by omega
          rw [hn0]
          exact .arr _ sz 0 _ bb o _ (fun _ _ => undef) (by omega) (by omega) (by omega) (fun i j hi _ => by omega) (fun i j hi _ => by omega) (fun i j hi _ => by omega)
        · rw [if_neg hml]
          refine .arr _ sz (hi' - lo') _ bb (o + lo' * sz) _ (fun i j => xx (i + lo') j) (by omega) (by omega) (fun h0 hz => hS (by omega) hz) (fun i j hi hj => ?_) (fun i j hi hj => h1c _ _ (by omega) hj) (fun i j hi hj => hr _ _ (by omega) hj)
          have := hc (i + lo') j (by omega) hj
          rw [← this]
          congr 2
          rw [Nat.add_mul]; omega
  · rename_i e a b c hu hl hh hm
    split at hv
    case h_2 => cases hv
    rename_i k hs
    cases hv
    have := hp.nils_inv; subst this
    have he : P.elem t = e := by simp [Program.elem, hu]
    obtain ⟨m, hrun, h1, h2, h3, h4⟩ := run_sliceBounds (P := P) (s := true) (Nat.le_refl 0) hl hh hm rx ry rz nx ny nz hφ
    have e1 : (bnds 0 a b c).2.1 = 0 := by omega
    have e0 : (bnds 0 a b c).1 = 0 := by omega
    have hm0 : m = 0 := by
      rcases hmx : mx with _ | v
      · exact h4 hmx
      · have := rz v hmx
        cases v <;> simp [hmx, bnd] at hm
        rename_i k i
        subst hm
        obtain ⟨u, hz, hu'⟩ := this
        have := hu'.int_inv; subst this
        subst hz
        have hc0 : 0 ≤ i ∧ i ≤ 0 := by cases a <;> cases b <;> simp [bnds] at hφ <;> omega
        have hi0 : i = 0 := by omega
        subst hi0
        cases hy : y with
        | none => simp [Instr.sliceBounds, hy, run_sliceBound] at hrun
        | some yv => 
          simp [Instr.sliceBounds, hy, run_sliceBound] at hrun
          cases h5 : (Instr.sliceBound yv 0 .slice3B).run P w with
          | halt x1 x2 => simp [h5, Result.andThen] at hrun
          | ok x1 x2 =>
            simp [h5] at hrun
            cases hx : x with
            | none => simp [hx] at hrun; exact hrun.1.2.2.symm
            | some xv =>
              simp [hx] at hrun
              cases h6 : (Instr.sliceBound xv x1 .slice3C).run P x2 with
              | halt x3 x4 => simp [h6, Result.andThen] at hrun
              | ok x3 x4 => simp [h6] at hrun; exact hrun.1.2.2.symm
    subst hm0
    refine ⟨.slice none 0 0, ?_, .nils _⟩
    rw [run_sliceAt_slice _ _ _ _ _ _ (by rw [he]; exact hu)]
    simp [Instr.slice, run_underlying hu, hrun, run_szOf hs, e0, e1]
  · cases hv

/-! ### Equality -/
def eqV (P : Program) : Nat → TypeId → V → V → Option Bool
  | 0, _, _, _ => none
  | d + 1, t, x, y =>
    match P.underlying t, x, y with
    | some .bool, .bool a, .bool b => some (a == b)
    | some (.int _), .int k a, .int k' b => if k = k' then some (a == b) else none
    | some (.int _), .b16 a, .b16 b => some (a == b)
    | some .string, .str a, .str b => some (a == b)
    | some (.struct fields), .agg xs, .agg ys =>
      if P.stoodInHeld t = false then
        fields.toList.foldr (fun f acc =>
          if f.name = "_" then acc else
          match partV P f.type xs f.offset, partV P f.type ys f.offset, acc with
          | some a, some b, some r => match eqV P d f.type a b with
            | some q => some (q && r)
            | none => none
          | _, _, _ => none) (some true)
      else none
    | _, _, _ => none

theorem b16_beq (x y : BitVec 16) : ((x.toNat : Int) == (y.toNat : Int)) = (x == y) := by
  rw [Bool.eq_iff_iff, beq_iff_eq, beq_iff_eq]; exact ⟨fun h => BitVec.eq_of_toNat_eq (by omega), fun h => by rw [h]⟩

theorem run_eqV {P : Program} {St : Nat → Prop} {w : World} {g : Gh} : ∀ (d : Nat) {t : TypeId} {x y : V} {r : Bool} {a b : Value}, eqV P d t x y = some r → Rel St w g x a → Rel St w g y b →
    (Op.equalIn d t a b).run P w = .ok r w := by
  intro d
  induction d with
  | zero => intro t x y r a b h; simp [eqV] at h
  | succ d ih =>
    intro t x y r a b h ha hb
    unfold eqV at h
    split at h
    · rename_i p q hu
      have := ha.bool_inv; subst this; have := hb.bool_inv; subst this
      cases h; exact run_equalIn_bool' w d t p q hu
    · rename_i k0 k p k' q hu
      split at h
      · rename_i hk; subst hk; cases h
        have := ha.int_inv; subst this; have := hb.int_inv; subst this
        exact run_equalIn_int w d t k k0 p q hu
      · cases h
    · rename_i k0 p q hu
      cases h
      have := ha.b16_inv; subst this; have := hb.b16_inv; subst this
      rw [← b16_beq]
      exact run_equalIn_int w d t .u16 k0 _ _ hu
    · rename_i p q hu
      cases h
      obtain ⟨s, rfl, rfl⟩ := ha.str_inv; obtain ⟨s', rfl, rfl⟩ := hb.str_inv
      rw [run_equalIn_string w d t s s' hu, ByteArray.toList_eq, ByteArray.toList_eq]
    · rename_i fields xs ys hu
      split at h
      case isFalse => cases h
      rename_i hst
      obtain ⟨vx, rfl, hlx, hrx⟩ := ha.agg_inv; obtain ⟨vy, rfl, hly, hry⟩ := hb.agg_inv
      have hfo : P.fieldsOf t = fields := by simp [Program.fieldsOf, hu]
      rw [run_equalIn_struct w d t vx vy (by rw [hfo]; exact hu) hst, hfo]
      generalize fields.toList = fs at h
      clear hfo hu
      induction fs generalizing r with
      | nil => simp at h; subst h; simp [Op.eqFields]
      | cons f fs ihf =>
        simp only [List.foldr_cons] at h
        simp only [Op.eqFields]
        by_cases hn : f.name = "_"
        · rw [if_pos hn] at h
          rw [if_neg (by simpa using hn)]
          exact ihf h
        · rw [if_neg hn] at h
          rw [if_pos (by simpa using hn)]
          split at h
          case h_2 => cases h
          rename_i pa pb pr e1 e2 e3
          split at h
          case h_2 => cases h
          rename_i q e4
          cases h
          obtain ⟨ya, hya, hra⟩ := run_partV e1 hlx hrx
          obtain ⟨yb, hyb, hrb⟩ := run_partV e2 hly hry
          have hq := ih e4 hra hrb
          have hrest := ihf e3
          simp only [Sem.run_bind, hya, hyb, hq, Result.andThen_ok, Sem.run_ite, Sem.run_pure, hrest]
          cases q <;> simp
    · cases h

def eqlV (P : Program) (op : BinOp) (t : TypeId) (x y : V) : Option (V × Prop) :=
  match op with
  | .eql => if P.eqGuardType P.depth t = false then (eqV P 10000 t x y).map fun b => (.bool b, True) else none
  | .neq => if P.eqGuardType P.depth t = false then (eqV P 10000 t x y).map fun b => (.bool (!b), True) else none
  | _ => none

/-- Operators. -/
def opV (P : Program) (wm : Bool) (op : BinOp) (t : TypeId) : V → V → Option (V × Prop)
  | .agg xs, .agg ys => eqlV P op t (.agg xs) (.agg ys)
  | .bool a, .bool b => match P.underlying t with
    | some .bool => match op with
      | .eql => some (.bool (a == b), True)
      | .neq => some (.bool (!(a == b)), True)
      | _ => none
    | _ => none
  | .arr _ n _, .nils => match P.underlying t with
    | some (.slice _) => match op with
      | .eql => some (.abool (fun b => b = true → n = 0), True)
      | .neq => some (.abool (fun b => b = false → n = 0), True)
      | _ => none
    | _ => none
  | .nils, .nils => match P.underlying t with
    | some (.slice _) => match op with
      | .eql => some (.bool true, True)
      | .neq => some (.bool false, True)
      | _ => none
    | _ => none
  | x, y => binV wm op x y

theorem run_binV {P : Program} {St : Nat → Prop} {w : World} {g : Gh} {wm : Bool} {op : BinOp} {t : TypeId} {x y v : V} {φ : Prop} {a b : Value} (hx : Rel St w g x a) (hy : Rel St w g y b)
    (hv : binV wm op x y = some (v, φ)) (hφ : φ) : ∃ r, (binOp op t a b).run P w = .ok r w ∧ (∀ St g, Rel St w g v r) ∧ a ≠ .nilIface ∧ (∀ cs, a ≠ .agg cs) := by
  unfold binV at hv
  split at hv
  · rename_i k a' k' b'
    have := hx.int_inv; subst this; have := hy.int_inv; subst this
    split at hv
    · obtain ⟨r, h1, h2⟩ := run_shiftV P w (t := t) (k' := k') hv hφ; exact ⟨r, h1, h2, by simp, by simp⟩
    · obtain ⟨r, h1, h2⟩ := run_shiftV P w (t := t) (k' := k') hv hφ; exact ⟨r, h1, h2, by simp, by simp⟩
    · split at hv
      · rename_i hk; subst hk
        obtain ⟨r, h1, h2⟩ := run_intV P w (t := t) hv hφ; exact ⟨r, h1, h2, by simp, by simp⟩
      · cases hv
  · rename_i x' y'
    have := hx.b16_inv; subst this; have := hy.b16_inv; subst this
    obtain ⟨r, h1, h2⟩ := run_b16V P w (t := t) hv; exact ⟨r, h1, h2, by simp, by simp⟩
  · rename_i x' k b'
    have := hx.b16_inv; subst this; have := hy.int_inv; subst this
    have key : ∀ (n : Int) (z : BitVec 16), BitVec.ofInt 16 n = z → ∀ St g, Rel St w g (.b16 z) (.int .u16 (IntKind.u16.wrap n)) := by
      intro n z hz St g; rw [wrap_u16, hz]; exact .b16 _ _
    split at hv
    · cases hv
      refine ⟨_, by simp [binOp, Op.shift, show ¬ b' < 0 by omega]; rfl, key _ _ ?_, by simp, by simp⟩
      apply BitVec.eq_of_toNat_eq
      rw [BitVec.toNat_ofInt, BitVec.toNat_shiftLeft, Nat.shiftLeft_eq]
      have e : ((x'.toNat : Int) * 2 ^ min b'.toNat IntKind.u16.bits) = ((x'.toNat * 2 ^ min b'.toNat 16 : Nat) : Int) := by simp [IntKind.bits]
      rw [e]
      have e3 : x'.toNat * 2 ^ b'.toNat % 2 ^ 16 = x'.toNat * 2 ^ min b'.toNat 16 % 2 ^ 16 := by
        by_cases h16 : b'.toNat ≤ 16
        · rw [Nat.min_eq_left h16]
        · rw [Nat.min_eq_right (by omega)]
          have : ∃ c, b'.toNat = 16 + c := ⟨b'.toNat - 16, by omega⟩
          obtain ⟨c, hc⟩ := this
          rw [hc, Nat.pow_add, ← Nat.mul_assoc, Nat.mul_right_comm, Nat.mul_mod_left, Nat.mul_mod_left]
      rw [e3]
      generalize x'.toNat * 2 ^ min b'.toNat 16 = n
      simp; omega
    · cases hv
      refine ⟨_, by simp [binOp, Op.shift, show ¬ b' < 0 by omega]; rfl, fun St g => ?_, by simp, by simp⟩
      have e : Int.fdiv (x'.toNat : Int) (2 ^ min b'.toNat IntKind.u16.bits) = ((x' >>> b'.toNat).toNat : Int) := by
        rw [Int.fdiv_eq_ediv_of_nonneg _ (Int.le_of_lt (Int.pow_pos (by decide)))]
        rw [BitVec.toNat_ushiftRight, Nat.shiftRight_eq_div_pow]
        have hx := x'.isLt
        by_cases h16 : b'.toNat ≤ 16
        · rw [show min b'.toNat IntKind.u16.bits = b'.toNat from Nat.min_eq_left h16]; simp
        · rw [show min b'.toNat IntKind.u16.bits = 16 from Nat.min_eq_right (by simp [IntKind.bits]; omega)]
          rw [Nat.div_eq_of_lt (Nat.lt_of_lt_of_le hx (Nat.pow_le_pow_right (by decide) (by omega)))]
          have : (x'.toNat : Int) / 2 ^ 16 = 0 := Int.ediv_eq_zero_of_lt (by omega) (by simpa using (by omega : (x'.toNat : Int) < 65536))
          rw [this]; rfl
      rw [e]; exact .b16 _ _
    · cases hv
  · rename_i a' b'
    obtain ⟨s, rfl, rfl⟩ := hx.str_inv; obtain ⟨s', rfl, rfl⟩ := hy.str_inv
    obtain ⟨r, h1, h2⟩ := run_strV P w (t := t) hv hφ; exact ⟨r, h1, h2, by simp, by simp⟩
  · cases hv

theorem run_equalIn_nil (P : Program) (w : World) (d : Nat) (t : TypeId) (p : Option Addr) (l c : Nat) {e : TypeId} (hb : P.underlying t = some (.slice e)) : (Op.equalIn (d + 1) t (.slice p l c) (.slice none 0 0)).run P w = .ok p.isNone w := by
  cases p <;> simp [Op.equalIn, run_underlying hb]
theorem run_nileq (P : Program) (w : World) (t : TypeId) (p : Option Addr) (l c : Nat) {e : TypeId} (hb : P.underlying t = some (.slice e)) (op : BinOp) (X Y : Operand) (ho : op = .eql ∨ op = .neq) :
    ((eqGuard op t X Y (.slice p l c) (.slice none 0 0)).run P w).andThen (fun _ w => (binOp op t (.slice p l c) (.slice none 0 0)).run P w) = .ok (.bool (if op = .eql then p.isNone else !p.isNone)) w := by
  have h' : (Op.equal t (.slice p l c) (.slice none 0 0)).run P w = .ok p.isNone w := run_equalIn_nil P w 9999 t p l c hb
  rcases ho with rfl | rfl
  · simp [eqGuard, binOp, h']
  · simp [eqGuard, binOp, h']

theorem run_opV {P : Program} {St : Nat → Prop} {w : World} {g : Gh} {wm : Bool} {op : BinOp} {t : TypeId} {x y v : V} {φ : Prop} {a b : Value} {X Y : Operand} (hx : Rel St w g x a) (hy : Rel St w g y b)
    (hv : opV P wm op t x y = some (v, φ)) (hφ : φ) : ∃ r, (do eqGuard op t X Y a b; binOp op t a b : Sem Value).run P w = .ok r w ∧ Rel St w g v r := by
  unfold opV at hv
  split at hv
  · rename_i xs ys
    obtain ⟨vx, ex, hlx, hrx⟩ := hx.agg_inv; obtain ⟨vy, ey, hly, hry⟩ := hy.agg_inv
    subst ex; subst ey
    cases op <;> simp only [eqlV, reduceCtorEq] at hv
    all_goals
      split at hv
      case isFalse => cases hv
      rename_i hg
      rw [Option.map_eq_some_iff] at hv
      obtain ⟨q, hq, he⟩ := hv
      cases he
      have h1 := run_eqV 10000 hq hx hy
      refine ⟨_, ?_, .bool _ _⟩
      rw [Sem.run_bind, run_eqGuard_agg w _ t X Y vx vy hg]
      simp only [Result.andThen_ok, run_eql_struct, run_neq_struct, h1]
  · rename_i p q
    have := hx.bool_inv; subst this; have := hy.bool_inv; subst this
    split at hv
    case h_2 => cases hv
    rename_i hb
    cases op <;> simp only [reduceCtorEq] at hv
    all_goals
      cases hv
      refine ⟨_, ?_, .bool _ _⟩
      simp [eqGuard, binOp, Op.equal, Op.maxDepth, run_equalIn_bool' w 9999 t p q hb]
  · rename_i sz n f
    split at hv
    case h_2 => cases hv
    rename_i e hb
    have := hy.nils_inv; subst this
    have hq : ∃ (p : Option Addr) (l c : Nat), a = .slice p l c ∧ (p.isNone = true → n = 0) := by
      cases hx with
      | arr0 => exact ⟨none, 0, 0, rfl, fun _ => rfl⟩
      | arr => exact ⟨_, _, _, rfl, fun h => by cases h⟩
    obtain ⟨p, l, c, rfl, hp⟩ := hq
    cases op <;> simp only [reduceCtorEq] at hv
    all_goals
      cases hv
      refine ⟨_, by rw [Sem.run_bind]; exact run_nileq P w t p l c hb _ _ _ (by simp), .abool _ _ _ ?_⟩
      cases p <;> simp_all
  · split at hv
    case h_2 => cases hv
    rename_i e hb
    have := hy.nils_inv; subst this
    have := hx.nils_inv; subst this
    cases op <;> simp only [reduceCtorEq] at hv
    all_goals
      cases hv
      exact ⟨_, by rw [Sem.run_bind]; exact run_nileq P w t none 0 0 hb _ _ _ (by simp), .bool _ _⟩
  · obtain ⟨r, h1, h2, h4, h5⟩ := run_binV (P := P) (t := t) hx hy hv hφ
    refine ⟨r, ?_, h2 _ _⟩
    rw [Sem.run_bind]
    have : (eqGuard op t X Y a b).run P w = .ok () w := by
      unfold eqGuard
      cases a <;> first | (exact absurd rfl h4) | (exact absurd rfl (h5 _)) | (cases op <;> rfl)
    rw [this]; exact h1

end Go.Abs
