/- Ranging over a map; own maps that turn no more. -/
import Derived.Test.YtmcmhjdmilgoeaaGreatDoorAbsS
import Derived.Laws.IdiomRangeMap
namespace Go.Abs
open Go Go.MapKept

section
variable {P : Program} {St : Nat → Prop} {w : World}

theorem run_set1 {q : Nat} {o : Obj} {m : Option Nat} {n c : Nat} {seen : Array Nat} (h : w.heap[q]? = some (.mapIter m n seen c)) : (setObj q o).run P w = .ok () { w with heap := w.heap.setIfInBounds q o } := by simp [setObj, Sem.run, h]
/-- What 'next' comes to. -/
theorem run_next_any (ty : TypeId) (q bm n : Nat) (seen : Array Nat) (es : Array MapEntry) (hq : w.heap[q]? = some (.mapIter (some bm) n seen n)) (hb : w.heap[bm]? = some (.map es n)) (hn : es.size = n) (hold : ∀ i, i < n → (es.getD i default).born = i) :
    ((∀ i, i < n → i ∈ seen.toList) ∧ (Instr.next (.pointer (some ⟨q, 0, none⟩)) false ty).run P w = .ok (.tuple #[.bool false]) w) ∨
    ((∀ i, i < n → i ∈ seen.toList) ∧ (Instr.next (.pointer (some ⟨q, 0, none⟩)) false ty).run P w = .ok (.tuple #[.bool false]) { w with drawn := w.drawn + 1 }) ∨
    ∃ i, i < n ∧ i ∉ seen.toList ∧ ∃ dr, (Instr.next (.pointer (some ⟨q, 0, none⟩)) false ty).run P w = .ok (.tuple #[.bool true, (es.getD i default).key, (es.getD i default).val]) { w with heap := w.heap.setIfInBounds q (.mapIter (some bm) n (seen.push i) n), drawn := dr } := by
  have hmem : ∀ e, e ∈ es.toList → e.born < n ∧ es.getD e.born default = e := by
    intro e he
    obtain ⟨i, hi, rfl⟩ := List.getElem_of_mem he
    have hi' : i < es.size := by simpa using hi
    have h1 := hold i (by omega)
    have h2 : es.getD i default = es.toList[i] := by simp [hi']
    rw [h2] at h1
    rw [h1]
    exact ⟨by omega, h2⟩
  have htest := next_test_false seen es n n (fun x hx => (hmem x hx).1) (Nat.le_refl _)
  have hold' : (es.filter fun e => !seen.contains e.born).filter (fun e => decide (e.born < n)) = es.filter fun e => !seen.contains e.born := by
    refine Array.filter_eq_self.2 fun e he => ?_
    have := (Array.mem_filter.1 he).1
    simpa using (hmem e (by simpa using this)).1
  have hnew' : (es.filter fun e => !seen.contains e.born).filter (fun e => decide (e.born ≥ n)) = #[] := by
    refine Array.filter_eq_empty_iff.2 fun e he => ?_
    have := (Array.mem_filter.1 he).1
    have := (hmem e (by simpa using this)).1
    simp; omega
  have hg : (getObj q).run P w = .ok (.mapIter (some bm) n seen n) w := by simp [getObj, Sem.run, hq]
  let left := es.filter fun e => !seen.contains e.born
  let cand : Array (Option MapEntry) := (if left.isEmpty then #[none] else #[]) ++ left.map some
  have hrun : (Instr.next (.pointer (some ⟨q, 0, none⟩)) false ty).run P w = ((choose (.mapNext cand.size)).run P w).andThen fun i w => (match cand[i]? with
      | some (some e) => do
        setObj q (.mapIter (some bm) n (seen.push e.born) n)
        pure (.tuple #[.bool true, e.key, e.val])
      | some none => pure (.tuple #[.bool false])
      | none => stuck "Next: no such candidate" : Sem Value).run P w := by
    unfold Instr.next
    simp only [Sem.run_bind, hg, Result.andThen_ok, MapKept.run_getObj_map hb]
    rw [if_neg (by rw [htest]; simp)]
    simp only [hold', hnew', Array.append_empty]
    rw [Sem.run_bind]
    rfl
  have hsz : 0 < cand.size := by
    cases hl : left.isEmpty with
    | true => simp [cand, hl]; omega
    | false =>
      have : left.size ≠ 0 := by simpa [Array.isEmpty] using hl
      simp [cand]; omega
  obtain ⟨j, hj, w1, hch, hw1⟩ : ∃ j, j < cand.size ∧ ∃ w1, (choose (.mapNext cand.size)).run P w = .ok j w1 ∧ (w1 = w ∨ w1 = { w with drawn := w.drawn + 1 }) := by
    rw [run_choose]
    by_cases hf : cand.size ≤ 1
    · exact ⟨0, hsz, w, by simp [Question.forced, hf], .inl rfl⟩
    · refine ⟨w.tape w.drawn (.mapNext cand.size) % cand.size, Nat.mod_lt _ hsz, _, ?_, .inr rfl⟩
      simp [Question.forced, hf, Question.cut]
  rw [hrun, hch, Result.andThen_ok]
  have hcj : cand[j]? = some cand[j] := by simp [hj]
  rw [hcj]
  have hql := (Array.getElem?_eq_some_iff.1 hq).1
  cases hc : cand[j] with
  | none =>
    have hempty : left.isEmpty = true := by
      cases hl : left.isEmpty with
      | true => rfl
      | false =>
        exfalso
        have hm : cand[j] ∈ cand := Array.getElem_mem hj
        rw [hc] at hm
        simp [cand, hl] at hm
    have hall : ∀ i, i < n → i ∈ seen.toList := by
      intro i hi
      have h1 : left = #[] := by simpa using hempty
      have h2 := Array.filter_eq_empty_iff.1 h1 (es.getD i default) (by
        have : i < es.size := by omega
        simp [this])
      rw [hold i hi] at h2
      simpa using h2
    rcases hw1 with rfl | rfl
    · exact .inl ⟨hall, rfl⟩
    · exact .inr (.inl ⟨hall, rfl⟩)
  | some e =>
    have hm : cand[j] ∈ cand := Array.getElem_mem hj
    rw [hc] at hm
    have hel : e ∈ left := by
      cases hl : left.isEmpty <;> simp [cand, hl] at hm <;> exact hm
    obtain ⟨h1, h2⟩ := Array.mem_filter.1 hel
    obtain ⟨h3, h4⟩ := hmem e (by simpa using h1)
    refine .inr (.inr ⟨e.born, h3, by simpa using h2, w1.drawn, ?_⟩)
    rw [h4]
    have hq1 : w1.heap = w.heap := by rcases hw1 with rfl | rfl <;> rfl
    have hlt1 : w1.heap[q]? = some (.mapIter (some bm) n seen n) := by rw [hq1]; exact hq
    dsimp only
    rw [Sem.run_bind, run_set1 hlt1, Result.andThen_ok]
    rcases hw1 with rfl | rfl <;> rfl
/-- 'range' over a map that turns no more. -/
theorem range_spec {mt kt et : TypeId} (hm : P.underlying mt = some (.map kt et)) (x : Operand) (ty r n : Nat) (kf vf : Nat → V) : OpSpec P (.range mt x) ty [] [] [.mp n kf vf] (.own r) [(r, .iter n kf vf [])] := by
  rintro o ho _ z ρ hW hr
  obtain ⟨dst, op, ty0, pos, after, guard⟩ := o
  dsimp only at ho; subst ho
  have h0 := hr 0 (by simp)
  simp [Op.operands] at h0
  generalize hmv : ρ x = mv at h0
  cases h0 with
  | mp _ _ _ _ b es hs ho hn hb hk hv =>
    refine ⟨_, .pointer (some ⟨z.w.heap.size, 0, none⟩), z.w.alloc (.mapIter (some b) n #[] n), z.St, z.g.set r (.pointer (some ⟨z.w.heap.size, 0, none⟩)), by simp [execOp, hmv, run_range_map z.w mt kt et b es n hm ho, Result.andThen], .inl rfl, ?_, .own _ _ _ (by simp [Gh.set]) rfl, fun k hk => by cases hk⟩
    refine hW.newObj (h := []) (d := r) rfl rfl ?_
    have hStw : ∀ k, z.St k → (z.w.alloc (.mapIter (some b) n #[] n)).heap[k]? = z.w.heap[k]? := fun k hk => by first | exact heap_alloc_old z.w _ (hW.st1 k hk).1 | exact heap_alloc_old z.w _ k (hW.st1 k hk).1
    exact ⟨_, b, rfl, heap_alloc_new _ _, (Rel.mp noGh n kf vf b es hs ho hn hb hk hv).mono (fun _ h => h) hStw⟩

/-- The entry that the iterator stands at. -/
theorem entry_spec (it : Operand) (ty r n : Nat) (kf vf : Nat → V) (seen : List Nat) (j : Nat) (hj : j < n) : OpSpec P (.entry it) ty [r] [(r, .iter n kf vf (seen ++ [j]))] [.own r] (.tup [kf j, vf j]) [(r, .iter n kf vf (seen ++ [j]))] := by
  rintro o ho _ z ρ hW hr
  obtain ⟨dst, op, ty0, pos, after, guard⟩ := o
  dsimp only at ho; subst ho
  have h0 := hr 0 (by simp)
  simp [Op.operands] at h0
  obtain ⟨u, hg, hb⟩ := hW.ok r (.iter n kf vf (seen ++ [j])) (by simp [Heap.get])
  obtain ⟨b, m, rfl, hbo, hmp⟩ := hb
  have hit : ρ it = .pointer (some ⟨b, 0, none⟩) := by have := h0.own_inv; rw [hg] at this; simpa using this.symm
  cases hmp with
  | mp _ _ _ _ _ es hs ho hn hbn hk hv =>
    have hjs : j < es.size := by omega
    have hfind : es.find? (fun e => e.born == j) = some es[j] := by
      rw [Array.find?_eq_some_iff_getElem]
      refine ⟨?_, j, hjs, rfl, fun i hi => ?_⟩
      · have := hbn j hj; simp [hjs] at this; simp [this]
      · have h1 := hbn i (by omega)
        have hi' : i < es.size := by omega
        simp [hi'] at h1
        simp [h1]; omega
    have hgo : (getObj b).run P z.w = .ok (.mapIter (some m) n (seen ++ [j]).toArray n) z.w := by simp [getObj, Sem.run, hbo]
    refine ⟨_, .tuple #[es[j].key, es[j].val], z.w, z.St, z.g, ?_, .inl rfl, hW, .tup _ _ _ rfl fun i hi => ?_, fun k _ => rfl⟩
    · simp [execOp, Instr.entry, hit, hgo, MapKept.run_getObj_map ho, hfind, Result.andThen]
    · have e1 : es.getD j default = es[j] := by simp [hjs]
      match i, hi with
      | 0, _ => have := noGh_any (g := z.g) (hk j hj) rfl; rw [e1] at this; exact this
      | 1, _ => have := noGh_any (g := z.g) (hv j hj) rfl; rw [e1] at this; exact this
/-- The next entry: whichever the tape says. -/
theorem next_aops {ops : Array Oper} {Q : Exit → S → Prop} {o : Oper} {rest : List Oper} {s : S} {it : Operand} {d r n : Nat} {kf vf : Nat → V} {seen : List Nat} (hg : o.guard = none) (hop : o.op = .next it false) (hd : o.dst = some d) (hdN : Nat.ble (d + 1) s.N = true)
    (hit : raw s.t it = .own r) (hh : s.h.get r = some (.iter n kf vf seen))
    (h1 : ∀ j, j < n → j ∉ seen → AOps P ops Q rest ⟨s.N, (d, .tup [.bool true, kf j, vf j]) :: s.t, (r, .iter n kf vf (seen ++ [j])) :: s.h.del r, s.b, s.o⟩)
    (h2 : (∀ j, j < n → j ∈ seen) → AOps P ops Q rest ⟨s.N, (d, .tup [.bool false]) :: s.t, s.h, s.b, s.o⟩) : AOps P ops Q (o :: rest) s := by
  rintro z a w ⟨St, g, hW, hT, hKp⟩
  refine wpListR_plain (fun c e => by rw [hop] at e; cases e) hg fun K hKK => ?_
  have hdN' : d < s.N := Nat.le_of_ble_eq_true hdN
  have h0 := rel_raw hT it
  rw [hit] at h0
  obtain ⟨u, hgr, hb⟩ := hW.ok r _ hh
  obtain ⟨b, m, rfl, hbo, hmp⟩ := hb
  have hiv : a.eval it = .pointer (some ⟨b, 0, none⟩) := by have := h0.own_inv; rw [hgr] at this; simpa using this.symm
  have hmp' := hmp
  cases hmp with
  | mp _ _ _ _ _ es hs ho hn hbn hk hv =>
    have hse : seen.toArray.toList = seen := by simp
    have key := run_next_any (P := P) o.type b m n seen.toArray es hbo ho hn hbn
    rw [hse] at key
    have hx : ∀ (x : Value) (w' : World), (Instr.next (.pointer (some ⟨b, 0, none⟩)) false o.type).run P w = .ok x w' → (execOp a.eval o).run P w = .ok (.value x) w' := by
      intro x w' h
      unfold execOp
      rw [hop]
      simp [hiv, h, Result.andThen]
    unfold Oper.wp
    have over : ∀ w' : World, w'.heap = w.heap → w'.os = w.os → w'.tape = w.tape → w'.output = w.output → (∀ j, j < n → j ∈ seen) → K (a.put (some d) (.tuple #[.bool false])) w' := by
      intro w' e1 e2 e3 e4 hall
      have hsame : ∀ k : Nat, w'.heap[k]? = w.heap[k]? := fun k => by rw [e1]
      refine hKK _ _ (h2 hall z _ _ ⟨St, g, ⟨⟨e2.trans hW.frm.os, e3.trans hW.frm.tape, e4.trans hW.frm.output, by rw [e1]; exact hW.frm.size, fun k hk hno => (hsame k).trans (hW.frm.block k hk hno)⟩, hW.st0, fun k hk => by rw [e1]; exact hW.st1 k hk, hW.ow, fun k bb hbb => ?_, hW.sep⟩, TSim.put ⟨hT.1, hT.2.1, fun k => (hT.2.2 k).mono (fun _ h => h) fun k _ => hsame k⟩ hdN' ?_, hKp.to (fun _ h => h) (fun k _ => hsame k) (put_defers ..) (fun _ _ => rfl)⟩)
      · obtain ⟨v, h3, h4⟩ := hW.ok k bb hbb
        exact ⟨v, h3, h4.mono (fun _ h => h) (fun k _ => hsame k) (fun k _ => hsame k) (r := k) (fun _ _ => rfl) (.inr rfl)⟩
      · exact .tup _ _ _ rfl fun i hi => by
          match i, hi with
          | 0, _ => exact .bool _ _
    rcases key with ⟨hall, hrun⟩ | ⟨hall, hrun⟩ | ⟨j, hj, hjn, dr, hrun⟩
    · rw [hx _ _ hrun, Oper.upon_value, hd]
      exact over w rfl rfl rfl rfl hall
    · rw [hx _ _ hrun, Oper.upon_value, hd]
      exact over _ rfl rfl rfl rfl hall
    · rw [hx _ _ hrun, Oper.upon_value, hd]
      have hbl := (Array.getElem?_eq_some_iff.1 hbo).1
      let w' : World := { w with heap := w.heap.setIfInBounds b (.mapIter (some m) n (seen.toArray.push j) n), drawn := dr }
      have hget : ∀ q, q ≠ b → w'.heap[q]? = w.heap[q]? := fun q hq => by simp [w', Array.getElem?_setIfInBounds_ne (Ne.symm hq)]
      have hStb : ¬ St b := (hW.ow r _ _ hh hgr b rfl).1
      have hStw : ∀ q, St q → w'.heap[q]? = w.heap[q]? := fun q hq => hget q fun e => hStb (e ▸ hq)
      have hset : g.set r (.pointer (some ⟨b, 0, none⟩)) = g := by
        funext q; by_cases hq : q = r
        · subst hq; simp [Gh.set, hgr]
        · simp [Gh.set, hq]
      have hW2 : WSim z St (g.set r (.pointer (some ⟨b, 0, none⟩))) ((r, .iter n kf vf (seen ++ [j])) :: s.h.del r) w' :=
        hW.change (w' := w') (d := r) (v' := .pointer (some ⟨b, 0, none⟩)) (ro := some b) (fun q hq => by cases hq; exact ⟨_, _, hh, hgr, rfl⟩) rfl rfl rfl (by simp [w']) (fun q _ hq => hget q fun e => hq (by rw [e])) (.inr hgr) (fun q hq => .inl (by simpa [blockOf] using hq))
          ⟨b, m, rfl, by simp [w', hbl], hmp'.mono (fun _ h => h) hStw⟩
      rw [hset] at hW2
      refine hKK _ _ (h1 j hj hjn z _ _ ⟨St, g, hW2, TSim.put ⟨hT.1, hT.2.1, fun k => (hT.2.2 k).mono (fun _ h => h) hStw⟩ hdN' ?_, hKp.to (fun _ h => h) hStw (put_defers ..) (fun _ _ => rfl)⟩)
      exact .tup _ _ _ rfl fun i hi => by
        match i, hi with
        | 0, _ => exact .bool _ _
        | 1, _ => exact (noGh_any (hk j hj) rfl).mono (fun _ h => h) hStw
        | 2, _ => exact (noGh_any (hv j hj) rfl).mono (fun _ h => h) hStw

/-! ### An own map that turns no more -/
def V.frzM (r : Nat) (u : V) : V → V
  | .own k => if k = r then u else .own k
  | v => if v.fresh r then v else .any
def tfrzM (r : Nat) (u : V) (t : List (Nat × V)) : List (Nat × V) := t.map fun p => (p.1, V.frzM r u p.2)
theorem tget_frzM (r : Nat) (u : V) (k : Nat) : ∀ t : List (Nat × V), tget (tfrzM r u t) k = V.frzM r u (tget t k)
  | [] => by simp [tfrzM, tget, V.frzM, V.fresh]
  | (a, v) :: t => by
    have ih := tget_frzM r u k t
    unfold tfrzM at ih ⊢
    simp only [List.map_cons, tget]
    split
    · rfl
    · exact ih
theorem Le.freezeM {s : S} (r : Nat) {n : Nat} {kf vf : Nat → V} (hh : s.h.get r = some (.mapB n kf vf)) (hr : s.b.contains r = false) :
    Le s ⟨s.N, tfrzM r (.mp n kf vf) s.t, (hdrop r s.h).del r, s.b, s.o⟩ := by
  rintro z a w ⟨St, g, hW, hT, hK⟩
  obtain ⟨u, hgu, hb⟩ := hW.ok r _ hh
  obtain ⟨b, es, rfl, ho, hn, hbn, hk, hv⟩ := hb.map_inv
  let St' : Nat → Prop := fun k => St k ∨ k = b
  have hS : ∀ k, St k → St' k := fun k hk => .inl hk
  have hu : ∀ g', Rel St' w g' (.mp n kf vf) (.map (some b)) := fun g' => .mp g' n kf vf b es (.inr rfl) ho hn hbn (fun i hi => (hk i hi).mono hS fun _ _ => rfl) fun i hi => (hv i hi).mono hS fun _ _ => rfl
  have hget : ∀ k bb, Heap.get ((hdrop r s.h).del r) k = some bb → k ≠ r ∧ ∃ b0, s.h.get k = some b0 ∧ bb = b0.drop r := by
    intro k bb hbb
    rw [Heap.get_del] at hbb
    split at hbb
    · cases hbb
    · rename_i hkr
      rw [get_hdrop, Option.map_eq_some_iff] at hbb
      obtain ⟨b0, h2, rfl⟩ := hbb
      exact ⟨hkr, b0, h2, rfl⟩
  refine ⟨St', g, ⟨hW.frm, fun k hk => .inl (hW.st0 k hk), ?_, ?_, ?_, ?_⟩, ⟨hT.1, hT.2.1, fun d => ?_⟩, hK.to hS (fun _ _ => rfl) rfl (fun _ _ => rfl)⟩
  · rintro k (hk | rfl)
    · exact hW.st1 k hk
    · exact ⟨(Array.getElem?_eq_some_iff.1 ho).1, .inr (hW.ow r _ _ hh hgu k rfl).2⟩
  · intro k bb v hbb hv q hq
    obtain ⟨hkr, b0, h2, rfl⟩ := hget k bb hbb
    have h3 := hW.ow k b0 v h2 hv q hq
    refine ⟨?_, h3.2⟩
    rintro (h4 | rfl)
    · exact h3.1 h4
    · exact hW.sep k r b0 _ v _ h2 hh hv hgu hkr q hq rfl
  · intro k bb hbb
    obtain ⟨hkr, b0, h2, rfl⟩ := hget k bb hbb
    obtain ⟨v, h3, h4⟩ := hW.ok k b0 h2
    exact ⟨v, h3, (h4.mono hS (fun _ _ => rfl) (fun _ _ => rfl) (r := k) (fun _ _ => rfl) (.inr rfl)).dropG (d := r) fun _ _ => rfl⟩
  · intro k k' bb bb' v v' hbb hbb' hv hv' hne
    obtain ⟨_, b0, h2, rfl⟩ := hget k bb hbb; obtain ⟨_, b0', h2', rfl⟩ := hget k' bb' hbb'
    exact hW.sep k k' b0 b0' v v' h2 h2' hv hv' hne
  · rw [tget_frzM]
    have h := hT.2.2 d
    generalize sval a d = xv at h ⊢
    generalize tget s.t d = v at h ⊢
    unfold V.frzM
    split
    · rename_i k
      split
      · rename_i hkr; subst hkr
        have := h.own_inv
        rw [hgu] at this; cases this
        exact hu g
      · exact h.mono hS fun _ _ => rfl
    · split
      · exact h.mono hS fun _ _ => rfl
      · exact .any _ _
end

end Go.Abs
