/- Operations in a region: the value of one that only reads; how own memory turns. -/
import Derived.Test.YtmcmhjdmilgoeaaGreatDoorAbsF
namespace Go.Abs
open Go

def raw (t : List (Nat × V)) : Operand → V
  | .tmp d => if d < G0 then tget t d else .any
  | .const v => vcon v
  | .global g => tget t (G0 + g)
  | .func f => .fn (.func f) []
def strip : V → V
  | .opt _ v => v
  | v => v
def ev (t : List (Nat × V)) (x : Operand) : V := strip (raw t x)

/-- What must hold for the operands to be there. -/
def obl (c : Bool) (t : List (Nat × V)) : List Operand → Prop
  | [] => True
  | x :: l => match raw t x with
    | .opt c' _ => (c = true → c' = true) ∧ obl c t l
    | _ => obl c t l

theorem rel_raw {St : Nat → Prop} {w : World} {g : Gh} {N : Nat} {t : List (Nat × V)} {a : Act} (h : TSim St w g N t a) (x : Operand) : Rel St w g (raw t x) (a.eval x) := by
  cases x with
  | tmp d =>
    show Rel St w g (if d < G0 then tget t d else .any) _
    split
    · rename_i hd; exact h.tmp hd
    · exact .any _ _
  | const v => exact rel_vcon v
  | global g => exact h.glob g
  | func f => exact .fn _ _ [] #[] rfl (fun i hi => by simp at hi)

theorem rel_strip {St : Nat → Prop} {w : World} {g : Gh} {v : V} {x : Value} (h : Rel St w g v x) (hc : ∀ c' v', v = .opt c' v' → c' = true) : Rel St w g (strip v) x := by
  cases h with
  | opt _ c v x h h0 => exact h (hc c v rfl)
  | any => exact .any _ _
  | bool => exact .bool _ _
  | int => exact .int _ _ _
  | b16 => exact .b16 _ _
  | str _ l s h => exact .str _ _ _ h
  | agg _ cs vs hl h => exact .agg _ _ _ hl h
  | tup _ cs vs hl h => exact .tup _ _ _ hl h
  | nils => exact .nils _
  | arr0 => exact .arr0 _ _ _
  | arr _ sz n f b o cap x hcap hmax hs hcc h1 hr => exact .arr _ sz n f b o cap x hcap hmax hs hcc h1 hr
  | elem _ sz n f i off b o x hi hs hcc h1 hr => exact .elem _ sz n f i off b o x hi hs hcc h1 hr
  | own _ r v h h1 => exact .own _ r _ h h1
  | ptr _ r off b h => exact .ptr _ r off b h
  | oelem _ r sz i off b n cap h => exact .oelem _ r sz i off b n cap h
  | osl _ r sz i off b n cap h => exact .osl _ r sz i off b n cap h
  | fn _ f cs vs hl h => exact .fn _ f cs vs hl h
  | lit => exact .lit _ _
  | abool _ p b h => exact .abool _ p b h
  | mp _ n kf vf b es hs ho hn hb hk hv => exact .mp _ n kf vf b es hs ho hn hb hk hv

theorem obl_mem {c : Bool} {t : List (Nat × V)} : ∀ {l : List Operand}, obl c t l → c = true → ∀ x ∈ l, ∀ c' v', raw t x = .opt c' v' → c' = true
  | [], _, _, _, hx, _, _, _ => by simp at hx
  | y :: l, h, hc, x, hx, c', v', he => by
    simp only [obl] at h
    rcases List.mem_cons.1 hx with rfl | hx
    · rw [he] at h; exact h.1 hc
    · refine obl_mem (l := l) ?_ hc x hx c' v' he
      split at h
      · exact h.2
      · exact h

theorem rel_ev {St : Nat → Prop} {w : World} {g : Gh} {N : Nat} {t : List (Nat × V)} {a : Act} (h : TSim St w g N t a) {c : Bool} (hc : c = true) {l : List Operand} (ho : obl c t l) :
    ∀ x ∈ l, Rel St w g (ev t x) (a.eval x) := fun x hx => rel_strip (rel_raw h x) (obl_mem ho hc x hx)

/-- The operands whose value must be there. -/
def needs : Op → List Operand
  | .pick c _ _ => [c]
  | .makeFunc _ _ captured => captured.toList
  | op => op.operands.toList

/-- An index of 16 bits as a number. -/
def unb : V → V
  | .b16 x => .int .u16 (x.toNat : Int)
  | v => v
theorem Rel.unb {St : Nat → Prop} {w : World} {g : Gh} {v : V} {x : Value} (h : Rel St w g v x) : Rel St w g (unb v) x := by
  cases v <;> first | exact h | (have := h.b16_inv; subst this; exact .int _ _ _)

def loO : Option Int → Nat
  | none => 0
  | some a => a.toNat
/-- A part of an own row. -/
def sliceO (P : Program) (h : Heap) (t : TypeId) (r : Nat) (lo hi mx : Option V) : Option (V × Prop) :=
  match P.underlying t, h.get r, bnd lo, bnd hi, bnd mx with
  | some (.slice e), some (.rows _ sz n _), some a, some b, some none => if szOf P e = some sz then some (.osl r sz (loO a) (subN n a b), (bnds n a b none).2.2) else none
  | _, _, _, _, _ => none

theorem run_sliceO {P : Program} {St : Nat → Prop} {w : World} {g : Gh} {h : Heap} (hb : BOk St w g h) {t : TypeId} {r : Nat} {v : V} {lo hi mx : Option V} {φ : Prop} {u : Value} {x y z : Option Value}
    (hp : Rel St w g (.own r) u) (rx : ∀ v, lo = some v → ∃ u, x = some u ∧ Rel St w g v u) (ry : ∀ v, hi = some v → ∃ u, y = some u ∧ Rel St w g v u) (rz : ∀ v, mx = some v → ∃ u, z = some u ∧ Rel St w g v u)
    (nx : lo = none → x = none) (ny : hi = none → y = none) (nz : mx = none → z = none)
    (hv : sliceO P h t r lo hi mx = some (v, φ)) (hφ : φ) : ∃ r, (Instr.sliceAt t u x y z).run P w = .ok r w ∧ Rel St w g v r := by
  unfold sliceO at hv
  split at hv
  case h_2 => cases hv
  rename_i e e' sz n f a b hu hh hl hhi hm
  split at hv
  case isFalse => cases hv
  rename_i hs
  cases hv
  have he : P.elem t = e := by simp [Program.elem, hu]
  have hmx : mx = none := by
    cases mx with
    | none => rfl
    | some v => cases v <;> simp [bnd] at hm
  subst hmx
  have fin : ∀ (lo' : Nat) (hi' : Nat), (bnds n a b none).1 = lo' → (bnds n a b none).2.1 = hi' → subN n a b = hi' - lo' ∧ loO a = lo' := by
    intro lo' hi' h1 h2
    subst h1; subst h2
    cases a <;> cases b <;> simp [bnds, subN, loO]
  obtain ⟨hN, hF⟩ := fin _ _ rfl rfl
  rw [hN, hF]
  obtain ⟨u', hgu, xs, ho, hr', h1c⟩ := hb _ _ hh
  have hx := hp.own_inv
  rw [hx] at hgu; cases hgu
  rcases ho.2 with ⟨rfl, hn⟩ | ⟨bb, cap, cur, rfl, _, hg, hncap, hcapm, hsz, htake⟩
  · subst hn
    obtain ⟨m, hrun, h1, h2, h3, h4⟩ := run_sliceBounds (P := P) (s := true) (Nat.le_refl 0) hl hhi hm rx ry rz nx ny nz hφ
    have e1 : (bnds 0 a b none).2.1 = 0 := by omega
    have e0 : (bnds 0 a b none).1 = 0 := by omega
    have hm0 := h4 rfl
    subst hm0
    refine ⟨.slice none 0 (0 - 0), ?_, ?_⟩
    · rw [run_sliceAt_slice _ _ _ _ _ _ (by rw [he]; exact hu)]
      simp [Instr.slice, run_underlying hu, hrun, run_szOf hs, e0, e1]
    · rw [e0, e1]
      exact .osl _ r sz 0 0 none 0 0 ⟨hx, Nat.le_refl _, fun _ => rfl⟩
  · obtain ⟨m, hrun, h1, h2, h3, h4⟩ := run_sliceBounds (P := P) (s := true) hncap hl hhi hm rx ry rz nx ny nz hφ
    have hm0 := h4 rfl
    subst hm0
    generalize (bnds n a b none).1 = lo' at *
    generalize (bnds n a b none).2.1 = hi' at *
    refine ⟨.slice (if m = lo' then some ⟨bb, 0, none⟩ else some ⟨bb, 0 + lo' * sz, none⟩) (hi' - lo') (m - lo'), ?_, ?_⟩
    · rw [run_sliceAt_slice _ _ _ _ _ _ (by rw [he]; exact hu)]
      simp [Instr.slice, run_underlying hu, hrun, run_szOf hs, add_plain]
    · have := Rel.osl (St := St) (w := w) g r sz lo' (hi' - lo') (some bb) n m ⟨hx, by omega, fun h => by cases h⟩
      simp only [Option.map] at this
      by_cases hml : m = lo'
      · rw [if_pos hml]; rwa [if_pos hml] at this
      · rw [if_neg hml, Nat.zero_add]; rwa [if_neg hml] at this

def pval (P : Program) (h : Heap) (wm : Bool) (c : Bool) (t : List (Nat × V)) : Op → Option (V × Prop)
  | .move x => some (ev t x, True)
  | .assign x => some (ev t x, True)
  | .pick cc a b => match ev t cc with
    | .bool cb => match a, b with
      | a, .const (.bool false) => match raw t a with
        | .bool x => some (.bool (cb && x), True)
        | .opt ca (.bool x) => some (.bool (cb && x), c = true → cb = true → ca = true)
        | _ => none
      | .const (.bool true), b => match raw t b with
        | .bool x => some (.bool (cb || x), True)
        | .opt ca (.bool x) => some (.bool (cb || x), c = true → cb = false → ca = true)
        | _ => none
      | _, _ => none
    | _ => none
  | .load ty a => loadV P h ty (ev t a)
  | .nilCheck x => match ev t x with
    | .ptr r o => some (.ptr r o, True)
    | .elem sz n f i off => some (.elem sz n f i off, True)
    | .oelem r sz i off => some (.oelem r sz i off, True)
    | .fn (.func f) cs => some (.fn (.func f) cs, True)
    | _ => none
  | .binOp op ty x y _ => opV P wm op ty (ev t x) (ev t y)
  | .unOp op _ x => unV wm op (ev t x)
  | .convert s d x => convV P h wm s d (ev t x)
  | .makeFunc fn first captured => if first.size = 0 then some (.fn fn (captured.toList.map (ev t)), True) else none
  | .slice ty x lo hi mx => match ev t x with
    | .own r => sliceO P h ty r (lo.map (ev t)) (hi.map (ev t)) (mx.map (ev t))
    | x => sliceV P ty x (lo.map (ev t)) (hi.map (ev t)) (mx.map (ev t))
  | .fieldAddr s x f => (fieldAddrV P s f (ev t x)).map fun v => (v, True)
  | .field s x f => (fieldV P s f (ev t x)).map fun v => (v, True)
  | .indexAddr ty x i => indexAddrV P h ty (ev t x) (unb (ev t i))
  | .index ty x i => indexV P ty (ev t x) (unb (ev t i))
  | .extract x i => match ev t x with
    | .tup vs => if i < vs.length then some (vs.getD i .any, True) else none
    | _ => none
  | .build ty parts => (buildV P ty (parts.toList.map fun p => (p.1, ev t p.2))).map fun v => (v, True)
  | .call cl => match cl.callee with
    | .builtin b => (builtinV P h b cl.argTypes (cl.args.toList.map (ev t))).map fun v => (v, True)
    | _ => none
  | _ => none

theorem getD_map {α β : Type} (f : α → β) (l : List α) (i : Nat) (d : β) (e : α) (hi : i < l.length) : (l.map f).getD i d = f (l.getD i e) := by
  simp [List.getD_eq_getElem?_getD, hi]

theorem run_pval {P : Program} {St : Nat → Prop} {w : World} {g : Gh} {h : Heap} (hb : BOk St w g h) {N : Nat} {t : List (Nat × V)} {a : Act} (ht : TSim St w g N t a) {wm c : Bool} (hc : c = true)
    {o : Oper} {v : V} {φ : Prop} (hv : pval P h wm c t o.op = some (v, φ)) (hφ : φ) (ho : obl c t (needs o.op)) :
    ∃ x, (execOp a.eval o).run P w = .ok (.value x) w ∧ Rel St w g v x := by
  have E := rel_ev ht hc ho
  obtain ⟨dst, op, ty0, pos, after, guard⟩ := o
  dsimp only at hv ho E
  have lift : ∀ {s : Sem Value}, (∃ x, s.run P w = .ok x w ∧ Rel St w g v x) → ∃ x, (do pure (.value (← s)) : Sem Next).run P w = .ok (.value x) w ∧ Rel St w g v x := by
    rintro s ⟨x, h1, h2⟩
    exact ⟨x, by simp [h1], h2⟩
  cases op <;> simp only [pval, reduceCtorEq] at hv <;> simp only [execOp]
  case move x => cases hv; exact ⟨_, rfl, E x (by simp [needs, Op.operands])⟩
  case assign x => cases hv; exact ⟨_, rfl, E x (by simp [needs, Op.operands])⟩
  case pick cc x y =>
    split at hv
    case h_2 => cases hv
    rename_i cb hcb
    have h1 := E cc (by simp [needs])
    rw [hcb] at h1
    have h2 := h1.bool_inv
    simp only [Sem.run_bind, h2, asBool, Sem.run_pure, Result.andThen_ok]
    split at hv
    · have hf : ∀ {z : Bool} {u : Value}, (cb = true → Rel St w g (.bool z) u) → ∃ x, Result.ok (Next.value (if cb = true then u else a.eval (.const (.bool false)))) w = .ok (Next.value x) w ∧ Rel St w g (.bool (cb && z)) x := by
        intro z u hz
        cases cb with
        | false => exact ⟨.bool false, rfl, .bool _ _⟩
        | true => exact ⟨_, rfl, by simpa using hz rfl⟩
      split at hv
      · rename_i z hz; cases hv; exact hf fun _ => by rw [← hz]; exact rel_raw ht x
      · rename_i ca z hz; cases hv
        exact hf fun hcb => by have := rel_raw ht x; rw [hz] at this; exact this.opt_inv (hφ hc hcb)
      · cases hv
    · have hf : ∀ {z : Bool} {u : Value}, (cb = false → Rel St w g (.bool z) u) → ∃ x, Result.ok (Next.value (if cb = true then a.eval (.const (.bool true)) else u)) w = .ok (Next.value x) w ∧ Rel St w g (.bool (cb || z)) x := by
        intro z u hz
        cases cb with
        | true => exact ⟨.bool true, rfl, by simpa using Rel.bool _ _⟩
        | false => exact ⟨_, rfl, by simpa using hz rfl⟩
      split at hv
      · rename_i z hz; cases hv; exact hf fun _ => by rw [← hz]; exact rel_raw ht y
      · rename_i ca z hz; cases hv
        exact hf fun hcb => by have := rel_raw ht y; rw [hz] at this; exact this.opt_inv (hφ hc hcb)
      · cases hv
    · cases hv
  case load ty x => exact lift (run_loadV hb (E x (by simp [needs, Op.operands])) hv hφ)
  case nilCheck x =>
    have h1 := E x (by simp [needs, Op.operands])
    generalize a.eval x = u at h1
    split at hv
    · rename_i r off he; cases hv; rw [he] at h1; cases h1 with | ptr _ _ _ b hg => exact ⟨_, rfl, .ptr _ _ _ b hg⟩
    · rename_i sz n f i off he; cases hv; rw [he] at h1; cases h1 with | elem _ _ _ _ _ _ b o x hi hs hc h1 hr => exact ⟨_, rfl, .elem _ sz n f i off b o x hi hs hc h1 hr⟩
    · rename_i r sz i off he; cases hv; rw [he] at h1; cases h1 with | oelem _ _ _ _ _ b n cap h => exact ⟨_, rfl, .oelem _ r sz i off b n cap h⟩
    · rename_i f cs he; cases hv; rw [he] at h1; cases h1 with | fn _ _ _ vs hl h => exact ⟨_, rfl, .fn _ _ cs vs hl h⟩
    · cases hv
  case binOp op ty x y yt => exact lift (run_opV (E x (by simp [needs, Op.operands])) (E y (by simp [needs, Op.operands])) hv hφ)
  case unOp op ty x => exact lift (run_unV (E x (by simp [needs, Op.operands])) hv hφ)
  case convert s d x => exact lift (run_convV hb (E x (by simp [needs, Op.operands])) hv hφ)
  case makeFunc fn first captured =>
    split at hv
    case isFalse => cases hv
    rename_i hf
    cases hv
    obtain rfl : first = #[] := Array.eq_empty_of_size_eq_zero hf
    refine lift ⟨.func fn #[] (captured.map a.eval), by simp [Instr.makeFunc], .fn _ _ _ _ (by simp) fun i hi => ?_⟩
    have hi' : i < captured.size := by simpa using hi
    have := E captured[i] (by simp [needs])
    rw [getD_map _ _ _ _ (.const default) (by simpa using hi')]
    simpa [List.getD_eq_getElem?_getD, hi'] using this
  case slice ty x lo hi mx =>
    have hx := E x (by simp [needs, Op.operands])
    have hlo : ∀ v, lo.map (ev t) = some v → ∃ u, lo.map a.eval = some u ∧ Rel St w g v u := by
      rintro v hv'; cases lo with
      | none => cases hv'
      | some l => cases hv'; exact ⟨_, rfl, E l (by simp [needs, Op.operands])⟩
    have hhi : ∀ v, hi.map (ev t) = some v → ∃ u, hi.map a.eval = some u ∧ Rel St w g v u := by
      rintro v hv'; cases hi with
      | none => cases hv'
      | some l => cases hv'; exact ⟨_, rfl, E l (by simp [needs, Op.operands])⟩
    have hmx : ∀ v, mx.map (ev t) = some v → ∃ u, mx.map a.eval = some u ∧ Rel St w g v u := by
      rintro v hv'; cases mx with
      | none => cases hv'
      | some l => cases hv'; exact ⟨_, rfl, E l (by simp [needs, Op.operands])⟩
    split at hv
    · rename_i r he
      rw [he] at hx
      refine lift (run_sliceO hb hx hlo hhi hmx ?_ ?_ ?_ hv hφ)
      · intro e; cases lo <;> simp_all
      · intro e; cases hi <;> simp_all
      · intro e; cases mx <;> simp_all
    refine lift (run_sliceV hx ?_ ?_ ?_ ?_ ?_ ?_ hv hφ)
    · rintro v hv'; cases lo with
      | none => cases hv'
      | some l => cases hv'; exact ⟨_, rfl, E l (by simp [needs, Op.operands])⟩
    · rintro v hv'; cases hi with
      | none => cases hv'
      | some l => cases hv'; exact ⟨_, rfl, E l (by simp [needs, Op.operands])⟩
    · rintro v hv'; cases mx with
      | none => cases hv'
      | some l => cases hv'; exact ⟨_, rfl, E l (by simp [needs, Op.operands])⟩
    · intro e; cases lo <;> simp_all
    · intro e; cases hi <;> simp_all
    · intro e; cases mx <;> simp_all
  case fieldAddr s x f =>
    rw [Option.map_eq_some_iff] at hv; obtain ⟨v', hv', he⟩ := hv; cases he
    exact lift (run_fieldAddrV (E x (by simp [needs, Op.operands])) hv')
  case field s x f =>
    rw [Option.map_eq_some_iff] at hv; obtain ⟨v', hv', he⟩ := hv; cases he
    exact lift (run_fieldV (E x (by simp [needs, Op.operands])) hv')
  case indexAddr ty x i => exact lift (run_indexAddrV hb (E x (by simp [needs, Op.operands])) (E i (by simp [needs, Op.operands])).unb hv hφ)
  case index ty x i => exact lift (run_indexV (E x (by simp [needs, Op.operands])) (E i (by simp [needs, Op.operands])).unb hv hφ)
  case extract x i =>
    split at hv
    case h_2 => cases hv
    rename_i vs he
    split at hv
    case isFalse => cases hv
    rename_i hi
    cases hv
    have h1 := E x (by simp [needs, Op.operands])
    rw [he] at h1
    obtain ⟨us, hu, hl, hr⟩ := h1.tup_inv
    refine lift ⟨us.getD i undef, ?_, hr i hi⟩
    have : i < us.size := by omega
    simp [Instr.extract, hu, this]
  case build ty parts =>
    rw [Option.map_eq_some_iff] at hv; obtain ⟨v', hv', he⟩ := hv; cases he
    refine lift (run_buildV hv' (by simp) fun i hi => ?_)
    have hi' : i < parts.size := by simpa using hi
    have h2 : (parts.toList.map fun p => (p.1, ev t p.2)).getD i (0, .any) = (parts[i].1, ev t parts[i].2) := by simp [List.getD_eq_getElem?_getD, hi']
    have h3 : (parts.map fun p => (p.1, a.eval p.2)).getD i (0, undef) = (parts[i].1, a.eval parts[i].2) := by simp [hi']
    rw [h2]
    have h4 := E parts[i].2 (by simp only [needs, Op.operands]; simp; exact ⟨_, Array.getElem_mem hi'⟩)
    constructor
    · have := congrArg Prod.fst h3; simpa using this
    · have := congrArg Prod.snd h3
      simp only at this ⊢
      rw [show (parts.map fun (x : Nat × Operand) => match x with | (i, x) => (i, a.eval x)) = (parts.map fun p => (p.1, a.eval p.2)) from rfl, this]
      exact h4
  case call cl =>
    split at hv
    case h_2 => cases hv
    rename_i b hcal
    rw [Option.map_eq_some_iff] at hv; obtain ⟨v', hv', he⟩ := hv; cases he
    have hargs : ∀ i, i < (cl.args.toList.map (ev t)).length → Rel St w g ((cl.args.toList.map (ev t)).getD i .any) ((cl.args.map a.eval).getD i undef) := by
      intro i hi
      have hi' : i < cl.args.size := by simpa using hi
      have := E cl.args[i] (by simp [needs, Op.operands, Call.operands, hcal])
      rw [getD_map _ _ _ _ (.const default) (by simpa using hi')]
      simpa [List.getD_eq_getElem?_getD, hi'] using this
    obtain ⟨y, hy, hr⟩ := run_builtinV (P := P) hb (us := cl.args.map a.eval) (by simp) hargs hv' ty0 (cl.args.map fun | .const _ => true | _ => false)
    exact ⟨y, by simp only [resolve, hcal, Sem.run_bind, Sem.run_pure, Result.andThen_ok, invoke]; exact hy, hr⟩

end Go.Abs
