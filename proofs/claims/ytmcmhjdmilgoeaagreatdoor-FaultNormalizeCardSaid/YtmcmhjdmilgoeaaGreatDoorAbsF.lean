/- The operations that only read: the whole. -/
import Derived.Test.YtmcmhjdmilgoeaaGreatDoorAbsE
namespace Go.Abs
open Go

def unV (wm : Bool) : UnOp → V → Option (V × Prop)
  | .not, .bool b => some (.bool (!b), True)
  | .neg, .int k n => if wm then some (.int k (k.wrap (0 - n)), True) else some (.int k (0 - n), inR k (0 - n))
  | .xor, .b16 x => some (.b16 (~~~x), True)
  | .neg, .b16 x => some (.b16 (-x), True)
  | _, _ => none

theorem run_unV {P : Program} {St : Nat → Prop} {w : World} {g : Gh} {wm : Bool} {op : UnOp} {v r : V} {φ : Prop} {x : Value} (hx : Rel St w g v x) (h : unV wm op v = some (r, φ)) (hφ : φ) :
    ∃ y, (Op.unary op x).run P w = .ok y w ∧ Rel St w g r y := by
  unfold unV at h
  split at h
  · cases h; have := hx.bool_inv; subst this; exact ⟨_, rfl, .bool _ _⟩
  · have := hx.int_inv; subst this
    split at h
    · cases h; exact ⟨_, rfl, .int _ _ _⟩
    · cases h; refine ⟨_, rfl, ?_⟩; rw [wrap_in hφ]; exact .int _ _ _
  · rename_i y
    cases h; have := hx.b16_inv; subst this
    refine ⟨_, rfl, ?_⟩
    have e : IntKind.u16.wrap ((BitVec.ofInt 16 65535 ^^^ BitVec.ofInt 16 (y.toNat : Int)).toNat : Int) = ((~~~y).toNat : Int) := by
      rw [wrap_u16]
      congr 2
      have ofN : ∀ z : BitVec 16, BitVec.ofInt 16 (z.toNat : Int) = z := fun z => by
        apply BitVec.eq_of_toNat_eq
        have := z.isLt
        simp
      rw [ofN, ofN]
      have : BitVec.ofInt 16 65535 = BitVec.allOnes 16 := by decide
      rw [this, BitVec.allOnes_xor]
    have e2 : (if IntKind.u16.signed then (-1 : Int) else IntKind.u16.max) = 65535 := by decide
    show Rel St w g _ (.int .u16 (IntKind.u16.wrap ((BitVec.ofInt 16 (if IntKind.u16.signed then (-1 : Int) else IntKind.u16.max) ^^^ BitVec.ofInt 16 (y.toNat : Int)).toNat : Int)))
    rw [e2, e]; exact .b16 _ _
  · rename_i y
    cases h; have := hx.b16_inv; subst this
    refine ⟨_, rfl, ?_⟩
    have e : IntKind.u16.wrap (0 - (y.toNat : Int)) = ((-y).toNat : Int) := by
      rw [wrap_u16]
      congr 2
      apply BitVec.eq_of_toNat_eq
      have := y.isLt
      simp [BitVec.toNat_ofInt]
      omega
    show Rel St w g _ (.int .u16 (IntKind.u16.wrap (0 - (y.toNat : Int))))
    rw [e]; exact .b16 _ _
  · cases h

/-! ### Conversions -/
def byteOf : V → UInt8
  | .int .u8 n => UInt8.ofNat n.toNat
  | _ => 0
def isByte : V → Prop
  | .int .u8 _ => True
  | _ => False

def convV (P : Program) (h : Heap) (wm : Bool) (src dst : TypeId) (x : V) : Option (V × Prop) :=
  match P.underlying dst, x with
  | some (.int .u16), .int _ n => match P.underlying src with
    | some (.int _) => some (.b16 (BitVec.ofInt 16 n), True)
    | _ => none
  | some (.int .u16), .b16 y => match P.underlying src with
    | some (.int _) => some (.b16 y, True)
    | _ => none
  | some (.int k), .int _ n => match P.underlying src with
    | some (.int _) => if wm then some (.int k (k.wrap n), True) else some (.int k n, inR k n)
    | _ => none
  | some (.int k), .b16 y => match P.underlying src with
    | some (.int _) => some (.int k (y.toNat : Int), inR k (y.toNat : Int))
    | _ => none
  | some .string, .str l => match P.underlying src with
    | some .string => some (.str l, True)
    | _ => none
  | some .string, .arr sz n f => match P.underlying src with
    | some (.slice e) => match P.underlying e with
      | some (.int .u8) => if sz = 1 then some (.str ((List.range n).map fun i => byteOf (f i 0)), ∀ i, i < n → isByte (f i 0)) else none
      | _ => none
    | _ => none
  | some .string, .own r => match P.underlying src with
    | some (.slice e) => match P.underlying e with
      | some (.int .u8) => match h.get r with
        | some (.rows _ sz n f) => if sz = 1 then some (.str ((List.range n).map fun i => byteOf (f i 0)), ∀ i, i < n → isByte (f i 0)) else none
        | _ => none
      | _ => none
    | _ => none
  | _, _ => none

theorem foldl_push_bytes' : ∀ (ns : List Int) (s : ByteArray), (ns.foldl (fun r n => r.push (UInt8.ofNat n.toNat)) s).data.toList = s.data.toList ++ ns.map fun n => UInt8.ofNat n.toNat
  | [], s => by simp
  | n :: ns, s => by
    rw [List.foldl_cons, foldl_push_bytes' ns]
    simp

theorem run_bytes {P : Program} {St : Nat → Prop} {w : World} {n : Nat} {f : Nat → Nat → V} {b o cap : Nat} {x : Nat → Value}
    (hc : ∀ i, i < n → w.cell? ⟨b, o + i, none⟩ = some (x i)) (hr : ∀ i, i < n → Rel St w noGh (f i 0) (x i)) (hφ : ∀ i, i < n → isByte (f i 0)) (g : Gh) :
    ∃ y, (Conv.bytesToString (.slice (some ⟨b, o, none⟩) n cap)).run P w = .ok y w ∧ Rel St w g (.str ((List.range n).map fun i => byteOf (f i 0))) y := by
  have hx : ∀ i, i < n → ∃ m, f i 0 = .int .u8 m ∧ x i = .int .u8 m := by
    intro i hi
    have h1 := hφ i hi
    have h2 := hr i hi
    cases hf : f i 0 with
    | int k m => 
      rw [hf] at h1 h2
      cases k <;> simp only [isByte] at h1
      exact ⟨m, rfl, h2.int_inv⟩
    | _ => rw [hf] at h1; simp [isByte] at h1
  have hm : ∃ ms : Nat → Int, ∀ i, i < n → f i 0 = .int .u8 (ms i) ∧ x i = .int .u8 (ms i) := by
    refine ⟨fun i => match f i 0 with | .int _ m => m | _ => 0, fun i hi => ?_⟩
    obtain ⟨m, h1, h2⟩ := hx i hi
    simp only [h1]; exact ⟨trivial, h2⟩
  obtain ⟨ms, hms⟩ := hm
  have hl := run_loadCells_list (P := P) w ⟨b, o, none⟩ (((List.range n).map ms).map (Value.int .u8)) (fun j v hv => by
    have hj : j < n := by have := (List.getElem?_eq_some_iff.1 hv).1; simpa using this
    rw [add_plain, hc j hj, (hms j hj).2]
    simpa [hj] using hv)
  rw [show (((List.range n).map ms).map (Value.int .u8)).length = n by simp] at hl
  refine ⟨_, run_bytesToString w ⟨b, o, none⟩ n cap ((List.range n).map ms) hl, .str _ _ _ ?_⟩
  rw [foldl_push_bytes']
  rw [show ByteArray.empty.data.toList = [] from rfl, List.nil_append, List.map_map]
  refine List.map_congr_left fun i hi => ?_
  have hi' : i < n := by simpa using hi
  simp [byteOf, (hms i hi').1]

theorem run_convV {P : Program} {St : Nat → Prop} {w : World} {g : Gh} {h : Heap} (hb : BOk St w g h) {wm : Bool} {src dst : TypeId} {x v : V} {φ : Prop} {a : Value} (hx : Rel St w g x a)
    (hv : convV P h wm src dst x = some (v, φ)) (hφ : φ) : ∃ y, (convert src dst a).run P w = .ok y w ∧ Rel St w g v y := by
  unfold convV at hv
  split at hv
  · rename_i k n hd
    split at hv
    case h_2 => cases hv
    rename_i k' hs
    cases hv; have := hx.int_inv; subst this
    refine ⟨.int .u16 (IntKind.u16.wrap n), by simp [convert, run_underlying hs, run_underlying hd, Conv.intToInt], ?_⟩
    rw [wrap_u16]; exact .b16 _ _
  · rename_i y hd
    split at hv
    case h_2 => cases hv
    rename_i k' hs
    cases hv; have := hx.b16_inv; subst this
    refine ⟨.int .u16 (IntKind.u16.wrap (y.toNat : Int)), by simp [convert, run_underlying hs, run_underlying hd, Conv.intToInt], ?_⟩
    rw [wrap_in (by have := y.isLt; exact ⟨by omega, by omega⟩)]; exact .b16 _ _
  · rename_i k k2 n _ hd
    split at hv
    case h_2 => cases hv
    rename_i k' hs
    have := hx.int_inv; subst this
    have hrun : (convert src dst (.int k2 n)).run P w = .ok (.int k (k.wrap n)) w := by simp [convert, run_underlying hs, run_underlying hd, Conv.intToInt]
    split at hv
    · cases hv; exact ⟨_, hrun, .int _ _ _⟩
    · cases hv; refine ⟨_, hrun, ?_⟩; rw [wrap_in hφ]; exact .int _ _ _
  · rename_i k y _ hd
    split at hv
    case h_2 => cases hv
    rename_i k' hs
    cases hv; have := hx.b16_inv; subst this
    refine ⟨.int k (k.wrap (y.toNat : Int)), by simp [convert, run_underlying hs, run_underlying hd, Conv.intToInt], ?_⟩
    rw [wrap_in hφ]; exact .int _ _ _
  · rename_i l hd
    split at hv
    case h_2 => cases hv
    rename_i hs
    cases hv
    obtain ⟨s, rfl, rfl⟩ := hx.str_inv
    exact ⟨.string s, by simp [convert, run_underlying hs, run_underlying hd], .str _ _ _ rfl⟩
  · rename_i sz n f hd
    split at hv
    case h_2 => cases hv
    rename_i e hs
    split at hv
    case h_2 => cases hv
    rename_i he
    split at hv
    case isFalse => cases hv
    rename_i hsz
    subst hsz
    cases hv
    cases hx with
    | arr0 =>
      refine ⟨.string .empty, ?_, .str _ _ _ rfl⟩
      rw [run_convert_bytes_string w src dst e _ _ _ hs he hd]; rfl
    | arr _ _ _ _ b o cap xx hcap hmax hS hc h1 hr =>
      rw [run_convert_bytes_string w src dst e _ _ _ hs he hd]
      exact run_bytes (x := fun i => xx i 0) (fun i hi => by simpa using hc i 0 hi (by omega)) (fun i hi => hr i 0 hi (by omega)) hφ g
  · rename_i r hd
    split at hv
    case h_2 => cases hv
    rename_i e hs
    split at hv
    case h_2 => cases hv
    rename_i he
    split at hv
    case h_2 => cases hv
    rename_i e' sz n f hh
    split at hv
    case isFalse => cases hv
    rename_i hsz
    subst hsz
    cases hv
    obtain ⟨u, hgu, xs, ho, hr, h1c⟩ := hb r _ hh
    have hxr := hx.own_inv
    rw [hxr] at hgu; cases hgu
    rcases ho.2 with ⟨rfl, hn⟩ | ⟨b, cap, cur, hu, _, hg, hncap, hcapm, hsz, htake⟩
    · subst hn
      refine ⟨.string .empty, ?_, .str _ _ _ rfl⟩
      rw [run_convert_bytes_string w src dst e _ _ _ hs he hd]; rfl
    · subst hu
      rw [run_convert_bytes_string w src dst e _ _ _ hs he hd]
      exact run_bytes (o := 0) (x := fun i => xs.getD i undef) (fun i hi => by simpa using ownsRow_cells ho rfl i (by omega)) (fun i hi => by simpa using hr i 0 hi (by omega)) hφ g
  · cases hv

/-! ### Built-ins that only read -/
def lenV (h : Heap) : TypeDesc → V → Option V
  | .string, .str l => some (.int .i64 (l.length : Int))
  | .slice _, .arr _ n _ => some (.int .i64 (n : Int))
  | .slice _, .nils => some (.int .i64 0)
  | .slice _, .own r => match h.get r with
    | some (.rows _ _ n _) => some (.int .i64 (n : Int))
    | _ => none
  | .slice _, .osl _ _ _ n => some (.int .i64 (n : Int))
  | _, _ => none

def builtinV (P : Program) (h : Heap) (b : Builtin) (ts : Array TypeId) (args : List V) : Option V :=
  match b, ts.toList, args with
  | .len, [t], [x] => match P.underlying t with
    | some d => lenV h d x
    | none => none
  | .cap, [t], [.nils] => match P.underlying t with
    | some (.slice _) => some (.int .i64 0)
    | _ => none
  | .min, _, [.int k a, .int _ c] => some (.int k (min a c))
  | .max, _, [.int k a, .int _ c] => some (.int k (max a c))
  | _, _, _ => none

theorem run_builtinV {P : Program} {St : Nat → Prop} {w : World} {g : Gh} {h : Heap} (hb : BOk St w g h) {b : Builtin} {ts : Array TypeId} {args : List V} {v : V} {us : Array Value} (hl : us.size = args.length)
    (hr : ∀ i, i < args.length → Rel St w g (args.getD i .any) (us.getD i undef)) (hv : builtinV P h b ts args = some v) (ty : TypeId) (cs : Array Bool) :
    ∃ y, (builtin b ts ty cs us).run P w = .ok (.value y) w ∧ Rel St w g v y := by
  unfold builtinV at hv
  split at hv
  · rename_i b ts' args' t x hts
    split at hv
    case h_2 => cases hv
    rename_i d hd
    have hu : us = #[us.getD 0 undef] := by
      apply Array.ext
      · simpa using hl
      · intro i h1 h2
        obtain rfl : i = 0 := by simpa using h2
        simp [h1]
    have hts2 : ts = #[t] := by rw [← Array.toArray_toList (xs := ts), hts]
    have h0 := hr 0 (by simp)
    simp only [List.getD_cons_zero] at h0
    rw [hu, hts2]
    generalize us.getD 0 undef = u at h0
    simp only [builtin, Sem.run_bind]
    unfold lenV at hv
    split at hv
    · cases hv; obtain ⟨s, rfl, rfl⟩ := h0.str_inv
      exact ⟨_, by simp [Builtin.len_, run_underlying hd]; rfl, by simp only [goInt]; exact .int _ _ _⟩
    · cases hv
      cases h0 with
      | arr0 => exact ⟨_, by simp [Builtin.len_, run_underlying hd]; rfl, .int _ _ _⟩
      | arr _ _ _ _ b o cap xx hcap hmax hS hc h1 hr => exact ⟨_, by simp [Builtin.len_, run_underlying hd]; rfl, .int _ _ _⟩
    · cases hv; have := h0.nils_inv; subst this
      exact ⟨_, by simp [Builtin.len_, run_underlying hd]; rfl, .int _ _ _⟩
    · split at hv
      case h_2 => cases hv
      rename_i e sz n f hh
      cases hv
      obtain ⟨u', hgu, xs, ho, hr', h1c⟩ := hb _ _ hh
      have hxr := h0.own_inv
      rw [hxr] at hgu; cases hgu
      rcases ho.2 with ⟨rfl, hn⟩ | ⟨b, cap, cur, hu', _, hg, hncap, hcapm, hsz, htake⟩
      · subst hn; exact ⟨_, by simp [Builtin.len_, run_underlying hd]; rfl, .int _ _ _⟩
      · subst hu'; exact ⟨_, by simp [Builtin.len_, run_underlying hd]; rfl, .int _ _ _⟩
    · cases hv
      cases h0 with
      | osl _ _ _ _ _ b n cap h => exact ⟨_, by simp [Builtin.len_, run_underlying hd]; rfl, .int _ _ _⟩
    · cases hv
  · rename_i ts' args' t hts
    split at hv
    case h_2 => cases hv
    rename_i e hd
    cases hv
    have hu : us = #[us.getD 0 undef] := by
      apply Array.ext
      · simpa using hl
      · intro i h1 h2
        obtain rfl : i = 0 := by simpa using h2
        simp [h1]
    have hts2 : ts = #[t] := by rw [← Array.toArray_toList (xs := ts), hts]
    have h0 := (hr 0 (by simp)).nils_inv
    rw [hu, hts2, h0]
    exact ⟨_, by simp [builtin, Builtin.cap_, run_underlying hd]; rfl, .int _ _ _⟩
  all_goals try (cases hv; done)
  all_goals
    rename_i k a k' c
    cases hv
    have hu : us = #[us.getD 0 undef, us.getD 1 undef] := by
      apply Array.ext
      · simpa using hl
      · intro i h1 h2
        have : i = 0 ∨ i = 1 := by simp at h2; omega
        rcases this with rfl | rfl <;> simp [h1]
    have h0 := (hr 0 (by simp)).int_inv
    have h1 := (hr 1 (by simp)).int_inv
    rw [hu, h0, h1]
    refine ⟨_, ?_, .int _ _ _⟩
    simp only [builtin, Sem.run_bind, Go.Lib.run_max_ints, Go.Lib.run_min_ints, Result.andThen_ok, Sem.run_pure]

end Go.Abs
