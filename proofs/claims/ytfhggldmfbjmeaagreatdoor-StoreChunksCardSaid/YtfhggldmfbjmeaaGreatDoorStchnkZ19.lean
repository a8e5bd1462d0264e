/- Part 19 of the proof: SplW, ItoaW, AtoiW, IdxW. -/
import Derived.Test.YtfhggldmfbjmeaaGreatDoorStchnkZ18
import Derived.Shelf.Strings.Split
import Derived.Lib.IndexBytes
import Derived.Shelf.Strconv.Itoa3
import Derived.Shelf.Strconv.AtoiAll
import Derived.Lib.Bytealg
namespace Go.Abs
open Go Go.RowKit Go.Lib Go.Shelf Go.Proofs

set_option maxHeartbeats 1000000 in
theorem split_one {P : Program} {ρ : Ren} (L : Lays.n146 P ρ) (hi9 : (P.info? (ρ.t 9)).map (fun i => (i.zero, i.size, i.bytes)) = some (some (.string ByteArray.empty), 1, 16)) (s : ByteArray) (c : UInt8) (w : World) (hs : s.size < 4294967281) :
    Calls P (ρ.f 146) #[.string s, .string ⟨#[c]⟩] w fun e w' =>
      e = .returned (.slice (some ⟨w.heap.size, 0, none⟩) (Lib.countB s ⟨#[c]⟩ + 1) (Lib.countB s ⟨#[c]⟩ + 1)) ∧ w' = w.alloc (.cells ((Lib.splitB ⟨#[c]⟩ 0 (Lib.countB s ⟨#[c]⟩) s).map Value.string).toArray (ρ.t 9)) := by
  have h1 : 1 ≤ (⟨#[c]⟩ : ByteArray).size := Nat.le_refl _
  have hle := Lib.countB_le ⟨#[c]⟩ h1 s.size s (Nat.le_refl _)
  have hlen := Lib.splitB_all ⟨#[c]⟩ h1 0 _ s rfl
  have hidx : ∀ x : ByteArray, Lib.indexByte x.data.toList c = Lib.indexB x ⟨#[c]⟩ := fun x => by
    exact (Lib.index_one x.data.toList c).symm
  have hcnt : ((Lib.countByte s.data.toList c : Nat) : Int) = (Lib.countB s ⟨#[c]⟩ : Int) := by
    show _ = ((Lib.count s.data.toList [c] : Nat) : Int)
    rw [Lib.count_one]; rfl
  have cc := Any.strings_genSplit_core { L with } hi9 s ⟨#[c]⟩ 0 (-1) (Lib.countB s ⟨#[c]⟩ + 1) w hs h1 (Nat.zero_le _)
    (fun x cs _ => by have := Any.strings_Index_one { L with } x c (w.alloc (.cells cs (ρ.t 9))); rw [hidx] at this; exact this)
    (by have := Any.strings_Count_one { L with } s c w; rw [hcnt] at this; exact this) (by decide) (by decide) (by rw [if_pos (by decide)]; omega)
  rw [Nat.add_sub_cancel, hlen] at cc
  have e2 : Lib.cellsOf (Lib.splitB ⟨#[c]⟩ 0 (Lib.countB s ⟨#[c]⟩) s) (Lib.countB s ⟨#[c]⟩ + 1) = ((Lib.splitB ⟨#[c]⟩ 0 (Lib.countB s ⟨#[c]⟩) s).map Value.string).toArray := by rw [← hlen]; exact Lib.cellsOf_full _
  rw [e2] at cc
  have t3 := L.t3; have t9 := L.t9; have t31 := L.t31
  have a3 := L.a3; have a9 := L.a9; have a31 := L.a31
  have z3 := L.z3; have v3 := L.v3; have z9 := L.z9; have v9 := L.v9; have z31 := L.z31; have v31 := L.v31
  have e221 : ∀ args w, (callFunc (ρ.f 221) args).run P w = .ok (.enter (ρ.f 221) args) w := enters_of L.f221 (by kernel_rfl) rfl
  go_enter L.f146, Body.n146_ntmps ρ
  go_wp2_with (go_at_fn (ρ.f 221); refine cc.mono ?_; rintro e w' ⟨rfl, hw⟩; rw [hw])
  go_ret
  exact ⟨rfl, rfl⟩

def splitO (x1 x2 : List UInt8) : Option (List (List UInt8)) :=
  match x2 with
  | [c] => if x1.length < 4294967281 then some (Lib.split x1 [c]) else none
  | _ => none
theorem split_spec {P : Program} {f : FuncId} (E : TypeId)
    (h : ∀ (s : ByteArray) (c : UInt8) (w : World), s.size < 4294967281 → Calls P f #[.string s, .string ⟨#[c]⟩] w fun e w' =>
      e = .returned (.slice (some ⟨w.heap.size, 0, none⟩) (Lib.countB s ⟨#[c]⟩ + 1) (Lib.countB s ⟨#[c]⟩ + 1)) ∧ w' = w.alloc (.cells ((Lib.splitB ⟨#[c]⟩ 0 (Lib.countB s ⟨#[c]⟩) s).map Value.string).toArray E))
    (x1 x2 : List UInt8) (r : List (List UInt8)) (hr : splitO x1 x2 = some r) : Spec1 P f [] [] [] [.str x1, .str x2] (.own 3000) [(3000, bL E 1 (fun x : List UInt8 => [.str x]) [] r)] := by
  unfold splitO at hr
  split at hr
  case h_2 => cases hr
  rename_i c
  split at hr
  case isFalse => cases hr
  rename_i hlt
  cases hr
  intro z vals hW hl hv _
  have e0 := hv 0 (by simp)
  have e1 := hv 1 (by simp)
  simp only [List.getD_cons_zero, List.getD_cons_succ] at e0 e1
  obtain ⟨s, hs1, hs2⟩ := e0.str_inv
  obtain ⟨s', hs1', hs2'⟩ := e1.str_inv
  have hs' := str_of hs2'
  have hv : vals = #[vals.getD 0 undef, vals.getD 1 undef] := by
    apply Array.ext
    · simpa using hl
    · intro i h1 h2
      have : i = 0 ∨ i = 1 := by simp at h2; omega
      rcases this with rfl | rfl <;> simp [h1]
  rw [hv, hs1, hs1', hs']
  have hsz : s.size = x1.length := by rw [← hs2]; simp
  refine (h s c z.w (by rw [hsz]; exact hlt)).mono ?_
  rintro e w' ⟨rfl, rfl⟩
  have hle := Lib.countB_le ⟨#[c]⟩ (Nat.le_refl _) s.size s (Nat.le_refl _)
  have hlen := Lib.splitB_all ⟨#[c]⟩ (Nat.le_refl _) 0 _ s rfl
  have hdata := Lib.splitB_data ⟨#[c]⟩ 0 (Lib.countB s ⟨#[c]⟩) s
  have hcnt : Lib.countB s ⟨#[c]⟩ = Lib.count x1 [c] := by rw [← hs2]
  have hsp : (Lib.splitB ⟨#[c]⟩ 0 (Lib.countB s ⟨#[c]⟩) s).map (·.data.toList) = Lib.split x1 [c] := by
    exact hdata.trans (by rw [hs2, hcnt]; rfl)
  generalize hps : Lib.splitB ⟨#[c]⟩ 0 (Lib.countB s ⟨#[c]⟩) s = ps at hlen hsp ⊢
  generalize hn : Lib.countB s ⟨#[c]⟩ = n at hlen hle ⊢
  have hrl : (Lib.split x1 [c]).length = n + 1 := by rw [← hsp, List.length_map, hlen]
  refine ⟨_, _, _, z.St, _, rfl, ⟨rfl, rfl⟩, hW.newObj (d := 3000) (v' := .slice (some ⟨z.w.heap.size, 0, none⟩) (n + 1) (n + 1)) (by rfl) rfl ?_, .own _ _ _ (by simp [Gh.set]) rfl, fun k hk => by cases hk⟩
  refine ⟨ps.map Value.string, ⟨by simp [hlen, hrl], .inr ⟨z.w.heap.size, n + 1, (ps.map Value.string).toArray, by rw [hrl], Nat.zero_le _, heap_alloc_new _ _, by rw [hrl]; exact Nat.le_refl _, by unfold maxLen; omega, by simp [hlen], by rw [hrl]; exact List.take_of_length_le (by simp [hlen])⟩⟩, fun i j hi hj => ?_, fun x hx => ?_⟩
  · obtain rfl : j = 0 := by omega
    rw [← hsp, List.length_map] at hi
    have e1 : (Lib.split x1 [c]).getD i [] = ps[i].data.toList := by rw [← hsp]; simp [List.getD_eq_getElem?_getD, hi]
    have e2 : (ps.map Value.string).getD (i * 1 + 0) undef = .string ps[i] := by simp [List.getD_eq_getElem?_getD, hi]
    simp only [encF, List.getD_cons_zero]
    rw [e1, e2]
    exact .str _ _ _ rfl
  · obtain ⟨q, _, rfl⟩ := List.mem_map.1 hx
    rfl
end Go.Abs
namespace Go.Abs
open Go Go.RowKit Go.Lib Go.Shelf Go.Proofs
theorem below_grow (w : World) (k : Nat) (os : Array Obj) : Go.RowKit.Below w.heap.size w (Go.Sort.grow (w.drewN k) os) :=
  ⟨rfl, rfl, rfl, by simp [Go.Sort.grow, World.drewN], fun i hi => by
    show (w.heap ++ os)[i]? = _
    rw [Array.getElem?_append_left hi]⟩
def itoaO (n : Int) : Option (List UInt8) := if -9223372036854775808 ≤ n ∧ n ≤ 9223372036854775807 then some (Lib.itoa n) else none
theorem itoa_spec {P : Program} {f : FuncId} {g : Nat} {name : String} {T : List Int} (hg : P.globalNamed name = some g)
    (h : ∀ (n : Int) (w : World), -9223372036854775808 ≤ n → n ≤ 9223372036854775807 → Lib.TabIs P w name .u64 T → Calls P f #[.int .i64 n] w fun e w' => e = .returned (.string ⟨(Lib.itoa n).toArray⟩) ∧ ∃ k os, w' = Go.Sort.grow (w.drewN k) os)
    (n : Int) (r : List UInt8) (hr : itoaO n = some r) : Spec1 P f [(g, .tab .u64 T)] [] [] [.int .i64 n] (.str r) [] := by
  unfold itoaO at hr
  split at hr
  case isFalse => cases hr
  rename_i hn
  cases hr
  intro z vals hW hl hv hgs
  have e0 := hv 0 (by simp)
  simp only [List.getD_cons_zero] at e0
  have hx : vals.getD 0 undef = .int .i64 n := by
    generalize vals.getD 0 undef = y at e0
    cases e0; rfl
  have hv' : vals = #[vals.getD 0 undef] := by
    apply Array.ext
    · simpa using hl
    · intro i h1 h2
      have : i = 0 := by simp at h2; omega
      subst this; simp [h1]
  rw [hv', hx]
  have ht : Lib.TabIs P z.w name .u64 T := by
    have := hgs (g, .tab .u64 T) (List.mem_singleton.2 rfl)
    simp only at this
    cases this with
    | tab _ _ _ _ t fr hs ho =>
      unfold Lib.TabIs World.var?
      rw [hg]
      simp [ho]
  refine (h n z.w hn.1 hn.2 ht).mono ?_
  rintro e w' ⟨rfl, k, os, rfl⟩
  exact ⟨_, _, _, z.St, _, rfl, ⟨rfl, rfl⟩, hW.below (below_grow _ _ _), .str _ _ _ (by simp), fun k hk => by cases hk⟩
end Go.Abs
namespace Go.Abs
open Go Go.RowKit Go.Lib Go.Shelf Go.Proofs
/-- A variable that holds an error that is not nil. -/
def errG : V := .elem 1 1 (fun _ _ => .ifc true) 0 0
theorem errG_cell {St : Nat → Prop} {w : World} {g : Gh} {G : Nat} (h : Rel St w g errG (.pointer (some ⟨G, 0, none⟩))) : ∃ t v, w.cell? ⟨G, 0, none⟩ = some (.iface t v) := by
  unfold errG at h
  generalize hp : Value.pointer (some ⟨G, 0, none⟩) = p at h
  cases h with
  | elem _ _ _ _ _ _ b o x hi hs hc h1 hr =>
    have e1 := hc 0 0 (by omega) (by omega)
    have e2 := hr 0 0 (by omega) (by omega)
    simp only [Value.pointer.injEq, Option.some.injEq, Addr.mk.injEq] at hp
    obtain ⟨rfl, hp, _⟩ := hp
    have e3 : o + 0 * 1 + 0 = 0 := hp.symm
    rw [e3] at e1
    cases e2 with
    | ifc _ _ _ hx =>
      obtain ⟨t, v, hx⟩ := hx
      exact ⟨t, v, e1.trans (congrArg some hx)⟩
def atoiO (s : List UInt8) : Option (Int × Bool) :=
  if s.length ≤ 281474976710656 then
    match Lib.atoiAll s with
    | .ok v => some (v, false)
    | .range => some (Lib.atoiSat s, true)
    | _ => some (0, true)
  else none
theorem atoi_spec {P : Program} {ρ : Ren} (L : LaysC.n172 P ρ) {f : FuncId} (hf : ρ.f 172 = f) {g1 g2 : Nat} (hg1 : ρ.g 15 = g1) (hg2 : ρ.g 16 = g2)
    (s : List UInt8) (r : Int × Bool) (hr : atoiO s = some r) : Spec1 P f [(g1, errG), (g2, errG)] [] [] [.str s] (.tup [.int .i64 r.1, .ifc r.2]) [] := by
  subst hf hg1 hg2
  unfold atoiO at hr
  split at hr
  case isFalse => cases hr
  rename_i hn
  intro z vals hW hl hv hgs
  have e0 := hv 0 (by simp)
  simp only [List.getD_cons_zero] at e0
  obtain ⟨b, hs1, hs2⟩ := e0.str_inv
  have hv' : vals = #[vals.getD 0 undef] := by
    apply Array.ext
    · simpa using hl
    · intro i h1 h2
      have : i = 0 := by simp at h2; omega
      subst this; simp [h1]
  rw [hv', hs1]
  have hsz : b.size = s.length := by rw [← hs2]; simp
  obtain ⟨t1, v1, hc1⟩ := errG_cell (hgs (ρ.g 15, errG) (by simp))
  obtain ⟨t2, v2, hc2⟩ := errG_cell (hgs (ρ.g 16, errG) (by simp))
  cases hq : Lib.atoiAll s with
  | ok v =>
    rw [hq] at hr
    cases hr
    refine (Any.strconv_Atoi_ok L b (by omega) v (by rw [hs2]; exact hq) z.w).mono ?_
    rintro e w' ⟨rfl, hw⟩
    have hb : Go.RowKit.Below z.w.heap.size z.w w' := by
      rcases hw with rfl | ⟨t, rfl⟩
      · exact Below.refl _ _
      · exact Lib.bytesWorld_below _ _ _
    refine ⟨_, _, _, z.St, _, rfl, ⟨rfl, rfl⟩, hW.below hb, .tup _ _ _ rfl fun i hi => ?_, fun k hk => by cases hk⟩
    match i, hi with
    | 0, _ => exact .int _ _ _
    | 1, _ => exact .ifc _ _ _ rfl
  | range =>
    rw [hq] at hr
    cases hr
    refine (Any.strconv_Atoi_range L b (by omega) (by rw [hs2]; exact hq) _ z.w hc2 (.inr ⟨_, _, rfl⟩)).mono ?_
    rintro e w' ⟨N, rfl, _, _, hb⟩
    refine ⟨_, _, _, z.St, _, rfl, ⟨rfl, rfl⟩, hW.below hb, .tup _ _ _ rfl fun i hi => ?_, fun k hk => by cases hk⟩
    match i, hi with
    | 0, _ => rw [hs2]; exact .int _ _ _
    | 1, _ => exact .ifc _ _ _ ⟨_, _, rfl⟩
  | _ =>
    rw [hq] at hr
    cases hr
    refine (Any.strconv_Atoi_syntax L b (by omega) (by rw [hs2]; exact hq) _ z.w hc1 (.inr ⟨_, _, rfl⟩)).mono ?_
    rintro e w' ⟨N, rfl, _, _, hb⟩
    refine ⟨_, _, _, z.St, _, rfl, ⟨rfl, rfl⟩, hW.below hb, .tup _ _ _ rfl fun i hi => ?_, fun k hk => by cases hk⟩
    match i, hi with
    | 0, _ => exact .int _ _ _
    | 1, _ => exact .ifc _ _ _ ⟨_, _, rfl⟩
/-- An interface compared with nil. -/
theorem ifc_eqIn {P : Program} {t : TypeId} {ms : Array (String × TypeId)} (ht : P.underlying t = some (.interface ms)) (b : Bool) (v : Value) (w : World) (d : Nat) (h : ifcOk b v) : (Op.equalIn (d + 1) t v .nilIface).run P w = .ok (!b) w := by
  cases b
  · obtain rfl : v = .nilIface := h
    simp [Op.equalIn, run_underlying ht]
  · obtain ⟨t', x, rfl⟩ := h
    simp [Op.equalIn, run_underlying ht]
theorem ifc_guard {P : Program} {t : TypeId} (op : BinOp) (X : Operand) (b : Bool) (v : Value) (w : World) (h : ifcOk b v) : (eqGuard op t X (.const .nilIface) v .nilIface).run P w = .ok () w := by
  cases b
  · obtain rfl : v = .nilIface := h
    cases op <;> cases X <;> rfl
  · obtain ⟨t', x, rfl⟩ := h
    cases op <;> rfl
theorem ifc_cmp {P : Program} {t : TypeId} {ms : Array (String × TypeId)} (ht : P.underlying t = some (.interface ms)) (b : Bool) (v : Value) (w : World) (h : ifcOk b v) :
    ((binOp .eql t v .nilIface).run P w = .ok (.bool (!b)) w) ∧ ((binOp .neq t v .nilIface).run P w = .ok (.bool b) w) := by
  have e : (Op.equal t v .nilIface).run P w = .ok (!b) w := ifc_eqIn ht b v w 9999 h
  have hv : v = .nilIface ∨ ∃ t' x, v = .iface t' x := by
    cases b
    · exact .inl h
    · exact .inr h
  rcases hv with rfl | ⟨t', x, rfl⟩ <;> constructor <;> simp only [binOp, Sem.run_bind, e, Result.andThen_ok, Sem.run_pure, Bool.not_not]
theorem ifcE_spec {P : Program} {t : TypeId} {ms : Array (String × TypeId)} (ht : P.underlying t = some (.interface ms)) (X : Operand) (yt ty : Nat) (b : Bool) : OpSpec P (.binOp .eql t X (.const .nilIface) yt) ty [] [] [.ifc b, .lit .nilIface] (.bool (!b)) [] := by
  rintro o ho _ z ρ hW hr
  obtain ⟨dst, op', ty0, pos, after, guard⟩ := o
  dsimp only at ho; subst ho
  have h0 := hr 0 (by simp); have h1 := hr 1 (by simp)
  simp [Op.operands] at h0 h1
  cases h0 with
  | ifc _ _ _ hb =>
    have h2 := (ifc_cmp ht b _ z.w hb).1
    have h4 := ifc_guard (P := P) (t := t) .eql X b _ z.w hb
    have h3 := h1.lit_inv
    refine ⟨_, _, z.w, z.St, z.g, by simp only [execOp]; rw [h3]; simp [h2, h4, Result.andThen], .inl rfl, hW, .bool _ _, fun q hq => by cases hq⟩
end Go.Abs
namespace Go.Abs
open Go Go.RowKit
def ixB (l : List UInt8) (c : UInt8) : Int := match l.findIdx? (· == c) with | some i => (i : Int) | none => -1
theorem ixB_eq (l : List UInt8) (c : UInt8) : Lib.indexByte l c = ixB l c := by
  induction l with
  | nil => rfl
  | cons b l ih =>
    have e : Lib.indexByte (b :: l) c = if b == c then 0 else if Lib.indexByte l c == -1 then -1 else Lib.indexByte l c + 1 := rfl
    rw [e, ih]
    unfold ixB
    rw [List.findIdx?_cons]
    cases h : b == c
    · cases h2 : List.findIdx? (fun x => x == c) l with
      | none => simp
      | some i =>
        have h3 : ((i : Int) == -1) = false := by simp
        simp [h3]
    · simp
def ixbO (l : List UInt8) (c : Int) : Option Int := some (ixB l c.toNat.toUInt8)
theorem ixb_spec {P : Program} {f : FuncId} (h : ∀ (s : ByteArray) (c : Int) (w : World), Calls P f #[.string s, .int .u8 c] w fun e w' => e = .returned (.int .i64 (Lib.indexByte s.data.toList c.toNat.toUInt8)) ∧ w' = w)
    (a : List UInt8) (c r : Int) (hr : ixbO a c = some r) : Spec1 P f [] [] [] [.str a, .int .u8 c] (.int .i64 r) [] := by
  cases hr
  intro z vals hW hl hv _
  have e0 := hv 0 (by simp)
  have e1 := hv 1 (by simp)
  simp only [List.getD_cons_zero, List.getD_cons_succ] at e0 e1
  obtain ⟨s, hs1, hs2⟩ := e0.str_inv
  have hs1' := e1.int_inv
  have hv : vals = #[vals.getD 0 undef, vals.getD 1 undef] := by
    apply Array.ext
    · simpa using hl
    · intro i h1 h2
      have : i = 0 ∨ i = 1 := by simp at h2; omega
      rcases this with rfl | rfl <;> simp [h1]
  rw [hv, hs1, hs1']
  refine (h s c z.w).mono ?_
  rintro e w' ⟨rfl, rfl⟩
  refine ⟨_, _, _, z.St, z.g, rfl, ⟨rfl, rfl⟩, hW, ?_, by simp⟩
  rw [hs2, ixB_eq]
  exact .int _ _ _
end Go.Abs
