/- Rows: a slice literal, make, append. -/
import Derived.Test.YtmcmhjdmilgoeaaGreatDoorAbsH
namespace Go.Abs
open Go

theorem run_append_abs {P : Program} {w : World} {t ty e : TypeId} {i : TypeInfo} {z : Value} (ht : P.underlying t = some (.slice e)) (hi : P.info? e = some i) (hz : i.zero = some z)
    (hzs : z.cells.size = i.size) {v : Value} {n : Nat} {xs : List Value} (hown : w.ownsRow 0 e i.size v n xs) {u : Value} {m : Nat} {news : List Value}
    (hsrc : (∃ a c, u = .slice (some a) m c ∧ news.length = m * i.size ∧ ∀ j x, news[j]? = some x → w.cell? (a.add j) = some x) ∨ (u = .slice none 0 0 ∧ m = 0 ∧ news = []))
    (h1 : ∀ x ∈ news, x.oneCell' = true) (h63 : n + m ≤ maxLen) (hbytes : (n + m) * i.bytes ≤ 140737488355328) :
    ∃ v' w', (Builtin.append_ #[t, t] ty #[v, u]).run P w = .ok v' w' ∧ w'.ownsRow 0 e i.size v' (n + m) (xs ++ news) ∧ w'.os = w.os ∧ w'.tape = w.tape ∧ w'.output = w.output ∧ w.heap.size ≤ w'.heap.size ∧
      (∀ k, k < w.heap.size → some k ≠ blockOf v → w'.heap[k]? = w.heap[k]?) ∧ (∀ k, blockOf v' = some k → blockOf v = some k ∨ (w.heap.size ≤ k ∧ k < w'.heap.size)) ∧ v'.oneCell' = true := by
  rcases hsrc with ⟨a, c, rfl, hl, hnews⟩ | ⟨rfl, rfl, rfl⟩
  · have hlen : (xs ++ news).length = (n + m) * i.size := by rw [List.length_append, hown.1, hl, Nat.add_mul]
    have hsmall : n + m ≤ 9223372036854775807 := by simp only [maxLen] at h63; omega
    have grown : ∀ (old : Nat), old < n + m →
        (w.drew.alloc (.cells (xs.toArray ++ news.toArray ++ Builtin.zeroCells z.cells (grownCap w (n + m) old e - (n + m))) e)).ownsRow 0 e i.size
          (.slice (some ⟨w.heap.size, 0, none⟩) (n + m) (grownCap w (n + m) old e)) (n + m) (xs ++ news) := by
      intro old ho
      have hge := grownCap_ge w (n + m) old e
      have hcm : grownCap w (n + m) old e ≤ maxLen := grownCap_le_maxLen w (n + m) old e h63
      refine ⟨hlen, .inr ⟨w.heap.size, _, _, rfl, Nat.zero_le _, heap_alloc_new w.drew _, hge, hcm, ?_, ?_⟩⟩
      · simp only [Array.size_append, List.size_toArray, size_zeroCells, hzs, hown.1, hl, ← Nat.add_mul]
        congr 1
        omega
      · simp only [Array.toList_append, List.append_assoc]
        rw [← List.append_assoc, ← hlen]
        exact List.take_left
    rcases hown.2 with ⟨rfl, rfl⟩ | ⟨g, cap, cur, rfl, hbg, hg, hnc, hcm, hcs, htake⟩
    · have hx : xs = [] := List.eq_nil_of_length_eq_zero (by simpa using hown.1)
      subst hx
      by_cases hm : m = 0
      · subst hm
        have hn : news = [] := List.eq_nil_of_length_eq_zero (by simpa using hl)
        subst hn
        refine ⟨.slice none 0 0, w, ?_, World.ownsRow_nil w 0 e i.size, rfl, rfl, rfl, Nat.le_refl _, fun _ _ _ => rfl, fun k hk => .inl hk, rfl⟩
        simp [Builtin.append_, run_underlying ht, sizeOf, typeInfo, hi, Builtin.lenOf, Builtin.firstCells, loadCells, loadCellsFrom]
      · have hr := run_append_nil (P := P) (ty := ty) w t e i z ht hi hz a m c news hl hnews (by omega) (by omega) (by have hb := hbytes; simp only [Nat.zero_add] at hb; omega)
        have hgr := grown 0 (by omega)
        simp only [Nat.zero_add, List.nil_append, Array.empty_append] at hgr ⊢
        exact ⟨_, _, hr, hgr, rfl, rfl, rfl, by simp, fun k hk _ => heap_alloc_old w.drew _ k hk, fun k hk => .inr (by simp [blockOf] at hk; subst hk; exact ⟨Nat.le_refl _, by simp⟩), rfl⟩
    · by_cases hroom : n + m ≤ cap
      · have hfit : n * i.size + news.length ≤ cur.size := by rw [hl, hcs, ← Nat.add_mul]; exact Nat.mul_le_mul_right _ hroom
        have hr := run_append_room (P := P) (ty := ty) w t e i ht hi g n cap cur hg a m c news hl hnews h1 hroom hfit
        refine ⟨_, _, hr, ⟨hlen, .inr ⟨g, cap, _, rfl, hbg, setRow_heap w g cur _ e _ hg, hroom, hcm, ?_, ?_⟩⟩, rfl, rfl, rfl, by simp, fun k _ hk => setRow_other w g k _ (fun e => hk (by simp [blockOf, e])), fun k hk => .inl hk, rfl⟩
        · simp only [List.size_toArray, List.length_append, List.length_take, List.length_drop, Array.length_toList]
          omega
        · rw [htake, ← hlen]
          exact List.take_left
      · have holds : ∀ j u, xs[j]? = some u → w.cell? ((⟨g, 0, none⟩ : Addr).add j) = some u := hown.cells (g := g) rfl
        have hr := run_append_grow (P := P) (ty := ty) w t e i z ht hi hz ⟨g, 0, none⟩ n cap xs hown.1 holds a m c news hl hnews (by omega) (by omega) (growslice_fits (by omega) hbytes)
        exact ⟨_, _, hr, grown cap (by omega), rfl, rfl, rfl, by simp, fun k hk _ => heap_alloc_old w.drew _ k hk, fun k hk => .inr (by simp [blockOf] at hk; subst hk; exact ⟨Nat.le_refl _, by simp⟩), rfl⟩
  · refine ⟨v, w, ?_, by simpa using hown, rfl, rfl, rfl, Nat.le_refl _, fun _ _ _ => rfl, fun k hk => .inl hk, ?_⟩
    · exact run_append_owned_none (P := P) (w := w) 0 t ty e i i.size ht hi v n xs hown
    · rcases hown.2 with ⟨rfl, _⟩ | ⟨g, cap, cur, rfl, _⟩ <;> rfl

/-! ### Boxes forget what names an own block -/
def Blk.drop (d : Nat) : Blk → Blk
  | .cells t cs => .cells t (cs.map fun v => if v.fresh d then v else .any)
  | .yld o k => .yld (yoCut ((yoIds o).contains d) o) k
  | b => b
def hdrop (d : Nat) (h : Heap) : Heap := h.map fun p => (p.1, p.2.drop d)
theorem get_hdrop (d r : Nat) : ∀ h : Heap, Heap.get (hdrop d h) r = (Heap.get h r).map (Blk.drop d)
  | [] => rfl
  | (a, b) :: h => by
    have ih := get_hdrop d r h
    unfold hdrop at ih ⊢
    simp only [List.map_cons, Heap.get]
    split
    · rfl
    · exact ih
theorem freshAll_map (d : Nat) : ∀ cs : List V, V.freshAll d (cs.map fun v => if v.fresh d then v else .any) = true
  | [] => rfl
  | v :: cs => by
    simp only [List.map_cons, V.freshAll, Bool.and_eq_true]
    refine ⟨?_, freshAll_map d cs⟩
    split
    · assumption
    · rfl
theorem fresh_hdrop (d : Nat) : ∀ h : Heap, Heap.fresh d (hdrop d h) = true
  | [] => rfl
  | (a, b) :: h => by
    have ih := fresh_hdrop d h
    unfold hdrop at ih ⊢
    simp only [List.map_cons, Heap.fresh, Bool.and_eq_true]
    refine ⟨?_, ih⟩
    cases b with
    | cells t cs => exact freshAll_map d cs
    | rows => rfl
    | iter => rfl
    | siter => rfl
    | mapB => rfl
    | yld o k =>
      simp only [Blk.drop, Blk.fresh, yoCut]
      split
      · simp [yoIds]
      · rename_i h; simpa using h
theorem fresh_del (d r : Nat) : ∀ h : Heap, Heap.fresh d h = true → Heap.fresh d (h.del r) = true
  | [], _ => rfl
  | (a, b) :: h, hf => by
    simp only [Heap.fresh, Bool.and_eq_true] at hf
    have ih := fresh_del d r h hf.2
    unfold Heap.del at ih ⊢
    simp only [List.filter_cons]
    split
    · simp only [Heap.fresh, Bool.and_eq_true]; exact ⟨hf.1, ih⟩
    · exact ih

theorem BlkOk.drop {St : Nat → Prop} {w : World} {g : Gh} {v : Value} {b : Blk} (d : Nat) (h : BlkOk St w g v b) : BlkOk St w g v (b.drop d) := by
  cases b with
  | rows => exact h
  | iter => exact h
  | siter => exact h
  | mapB => exact h
  | yld o k => obtain ⟨l, r, hv, hh, hy⟩ := h; exact ⟨l, r, hv, hh, hy.cutb _⟩
  | cells t cs =>
    obtain ⟨b, vals, rfl, hb, hl, hr, h1⟩ := h
    refine ⟨b, vals, rfl, hb, by simpa using hl, fun i hi => ?_, fun i hi => h1 i (by simpa using hi)⟩
    have hi' : i < cs.length := by simpa using hi
    have e : (cs.map fun v => if v.fresh d then v else .any).getD i .any = if (cs.getD i .any).fresh d then cs.getD i .any else .any := by
      simp [List.getD_eq_getElem?_getD, hi']
    rw [e]
    split
    · exact hr i hi'
    · exact .any _ _

/-- A heap that says less. -/
theorem WSim.less {z : Start} {St : Nat → Prop} {g : Gh} {h h' : Heap} {w : World} (hs : WSim z St g h w)
    (hh : ∀ r b', h'.get r = some b' → ∃ b, h.get r = some b ∧ ∀ v, BlkOk St w g v b → BlkOk St w g v b') : WSim z St g h' w := by
  refine ⟨hs.frm, hs.st0, hs.st1, fun r b v h1 h2 => ?_, fun r b h1 => ?_, fun r r' b b' v v' h1 h1' h2 h2' => ?_⟩
  · obtain ⟨b0, h0, _⟩ := hh r b h1; exact hs.ow r b0 v h0 h2
  · obtain ⟨b0, h0, hk⟩ := hh r b h1
    obtain ⟨v, h3, h4⟩ := hs.ok r b0 h0
    exact ⟨v, h3, hk v h4⟩
  · obtain ⟨b0, h0, _⟩ := hh r b h1; obtain ⟨b0', h0', _⟩ := hh r' b' h1'
    exact hs.sep r r' b0 b0' v v' h0 h0' h2 h2'

theorem WSim.hdrop {z : Start} {St : Nat → Prop} {g : Gh} {h : Heap} {w : World} (hs : WSim z St g h w) (d : Nat) : WSim z St g (hdrop d h) w :=
  hs.less fun r b' hb' => by
    rw [get_hdrop, Option.map_eq_some_iff] at hb'
    obtain ⟨b, h1, rfl⟩ := hb'
    exact ⟨b, h1, fun v h => h.drop d⟩

/-- The own row 'r' is bound to the slice 'v''. -/
theorem sim_rows {z : Start} {St : Nat → Prop} {g : Gh} {h : Heap} {w w' : World} (hs : WSim z St g h w) {N : Nat} {t : List (Nat × V)} {a : Act} (ht : TSim St w g N t a)
    {r d : Nat} (hd : d < N) {e : TypeId} {sz n : Nat} {f : Nat → Nat → V} {v' : Value} {xs : List Value} {ro : Option Nat}
    (hro : ∀ k, ro = some k → ∃ b v, h.get r = some b ∧ g r = some v ∧ blockOf v = some k)
    (hos : w'.os = w.os) (htape : w'.tape = w.tape) (hout : w'.output = w.output) (hsize : w.heap.size ≤ w'.heap.size)
    (hw : ∀ k, k < w.heap.size → some k ≠ ro → w'.heap[k]? = w.heap[k]?)
    (hnew : ∀ k, blockOf v' = some k → ro = some k ∨ (w.heap.size ≤ k ∧ k < w'.heap.size)) (h1v : v'.oneCell' = true)
    (hown : w'.ownsRow 0 e sz v' n xs) (hr : ∀ i j, i < n → j < sz → Rel St w noGh (f i j) (xs.getD (i * sz + j) undef)) (h1 : ∀ x ∈ xs, x.oneCell' = true) {b : List Nat} {o : Nat} (hk : KD z St w g b a) (hrb : r ∉ b) :
    Sim z ⟨N, (d, .own r) :: tdrop r t, (r, .rows e sz n f) :: (hdrop r h).del r, b, o⟩ (a.put (some d) v') w' := by
  have hStw : ∀ k, St k → w'.heap[k]? = w.heap[k]? := fun k hk => hw k (hs.st1 k hk).1 (fun e => by
    obtain ⟨b, v, h1, h2, h3⟩ := hro k e.symm
    exact (hs.ow r b v h1 h2 k h3).1 hk)
  refine ⟨St, g.set r v', ?_, ?_, hk.set hrb _ hStw (put_defers ..)⟩
  · refine (hs.hdrop r).change (ro := ro) (fun k hk => ?_) hos htape hout hsize hw (.inl (fresh_del r r _ (fresh_hdrop r h))) hnew ⟨xs, hown, fun i j hi hj => (hr i j hi hj).mono (fun _ h => h) hStw, h1⟩
    obtain ⟨b, v, h2, h3, h4⟩ := hro k hk
    exact ⟨b.drop r, v, by rw [get_hdrop, h2]; rfl, h3, h4⟩
  · exact (ht.drop hStw (fun k hk => Gh.set_ne hk)).put hd (.own _ r _ (by simp [Gh.set]) h1v)

/-! ### What the source of an append holds -/
def srcV (h : Heap) (e : TypeId) (sz : Nat) : V → Option (Nat × (Nat → Nat → V))
  | .nils => some (0, fun _ _ => .any)
  | .arr sz' m f => if sz' = sz then some (m, f) else none
  | .own r => match h.get r with
    | some (.rows e' sz' m f) => if sz' = sz ∧ e' = e then some (m, f) else none
    | _ => none
  | _ => none

theorem run_src {z : Start} {St : Nat → Prop} {g : Gh} {h : Heap} {w : World} (hs : WSim z St g h w) {e : TypeId} {sz : Nat} (hsz : 0 < sz) {v : V} {u : Value} (hv : Rel St w g v u) {m : Nat} {f : Nat → Nat → V}
    (hm : srcV h e sz v = some (m, f)) : ∃ news : List Value, ((∃ a c, u = .slice (some a) m c ∧ news.length = m * sz ∧ ∀ j x, news[j]? = some x → w.cell? (a.add j) = some x) ∨ (u = .slice none 0 0 ∧ m = 0 ∧ news = [])) ∧
      news.length = m * sz ∧ (∀ x ∈ news, x.oneCell' = true) ∧ (∀ i j, i < m → j < sz → Rel St w noGh (f i j) (news.getD (i * sz + j) undef)) := by
  unfold srcV at hm
  split at hm
  · cases hm; have := hv.nils_inv; subst this
    exact ⟨[], .inr ⟨rfl, rfl, rfl⟩, by simp, by simp, fun i j hi => by omega⟩
  · rename_i sz' m' f'
    split at hm
    case isFalse => cases hm
    rename_i hsz'
    cases hm; subst hsz'
    cases hv with
    | arr0 => exact ⟨[], .inr ⟨rfl, rfl, rfl⟩, by simp, by simp, fun i j hi => by omega⟩
    | arr _ _ _ _ b o cap x hcap hmax hS hc h1 hr =>
      have hdm : ∀ q, q < m * sz' → q / sz' < m ∧ q % sz' < sz' ∧ q / sz' * sz' + q % sz' = q := fun q hq =>
        ⟨Nat.div_lt_of_lt_mul (by rw [Nat.mul_comm]; exact hq), Nat.mod_lt _ hsz, by rw [Nat.mul_comm]; exact Nat.div_add_mod q sz'⟩
      refine ⟨(List.range (m * sz')).map fun q => x (q / sz') (q % sz'), .inl ⟨⟨b, o, none⟩, cap, rfl, by simp, fun j v hv => ?_⟩, by simp, fun v hv => ?_, fun i j hi hj => ?_⟩
      · have hj : j < m * sz' := by have := (List.getElem?_eq_some_iff.1 hv).1; simpa using this
        obtain ⟨h2, h3, h4⟩ := hdm j hj
        have := hc _ _ h2 h3
        rw [add_plain]
        rw [Nat.add_assoc, h4] at this
        rw [this]; simpa [hj] using hv
      · simp only [List.mem_map, List.mem_range] at hv
        obtain ⟨q, hq, rfl⟩ := hv
        exact h1 _ _ (hdm q hq).1 (hdm q hq).2.1
      · have hq := idx_lt hi hj
        rw [getD_map _ _ _ _ 0 (by simpa using hq)]
        have e1 : (List.range (m * sz')).getD (i * sz' + j) 0 = i * sz' + j := by simp [List.getD_eq_getElem?_getD, hq]
        have e2 : (i * sz' + j) / sz' = i := by rw [Nat.mul_comm, Nat.mul_add_div hsz, Nat.div_eq_of_lt hj]; rfl
        have e3 : (i * sz' + j) % sz' = j := by rw [Nat.mul_comm, Nat.mul_add_mod, Nat.mod_eq_of_lt hj]
        rw [e1, e2, e3]
        exact hr i j hi hj
  · split at hm
    case h_2 => cases hm
    rename_i r e' sz' m' f' hh
    split at hm
    case isFalse => cases hm
    rename_i hse
    obtain ⟨rfl, rfl⟩ := hse
    cases hm
    obtain ⟨u', hgu, xs, ho, hr, h1⟩ := hs.ok _ _ hh
    rw [hv.own_inv] at hgu; cases hgu
    refine ⟨xs, ?_, ho.1, h1, hr⟩
    rcases ho.2 with ⟨rfl, hn⟩ | ⟨b, cap, cur, rfl, _, hg, hncap, hcapm, hsz, htake⟩
    · subst hn; exact .inr ⟨rfl, rfl, List.eq_nil_of_length_eq_zero (by simpa using ho.1)⟩
    · exact .inl ⟨_, cap, rfl, ho.1, ho.cells (g := b) rfl⟩
  · cases hm

/-- One row after another. -/
def appF (n : Nat) (f f2 : Nat → Nat → V) : Nat → Nat → V := fun i j => if i < n then f i j else f2 (i - n) j
/-- A row out of a list of cells. -/
def lstF (sz : Nat) (cs : List V) : Nat → Nat → V := fun i j => cs.getD (i * sz + j) .any

theorem app_get {St : Nat → Prop} {w : World} {sz n m : Nat} {f f2 : Nat → Nat → V} {xs news : List Value} (hl : xs.length = n * sz)
    (hr : ∀ i j, i < n → j < sz → Rel St w noGh (f i j) (xs.getD (i * sz + j) undef)) (hr2 : ∀ i j, i < m → j < sz → Rel St w noGh (f2 i j) (news.getD (i * sz + j) undef)) :
    ∀ i j, i < n + m → j < sz → Rel St w noGh (appF n f f2 i j) ((xs ++ news).getD (i * sz + j) undef) := by
  intro i j hi hj
  unfold appF
  split
  · rename_i h
    have := idx_lt h hj
    rw [List.getD_eq_getElem?_getD, List.getElem?_append_left (by omega), ← List.getD_eq_getElem?_getD]
    exact hr i j h hj
  · rename_i h
    have e : i * sz + j - xs.length = (i - n) * sz + j := by
      rw [hl, Nat.sub_mul]
      have := Nat.mul_le_mul_right sz (show n ≤ i by omega)
      omega
    have hge : xs.length ≤ i * sz + j := by rw [hl]; have := Nat.mul_le_mul_right sz (show n ≤ i by omega); omega
    rw [List.getD_eq_getElem?_getD, List.getElem?_append_right hge, e, ← List.getD_eq_getElem?_getD]
    exact hr2 _ j (by omega) hj

end Go.Abs
