/- Part 16 of the proof: AbsD0. -/
import Derived.Test.YtjgboohpholnbaaGreatDoorTpcomZ15
import Derived.Calls
import Derived.RunT
import Derived.Lone
namespace Go.Abs
open Go
def RD {α : Type} (n : Nat) : Result α → Prop
  | .ok _ w => n ≤ w.drawn
  | .halt _ w => n ≤ w.drawn
theorem RD.mono {α : Type} {n m : Nat} (h : n ≤ m) : ∀ {r : Result α}, RD m r → RD n r
  | .ok _ _, k => Nat.le_trans h k
  | .halt _ _, k => Nat.le_trans h k
theorem ask_drawn {α : Type} : ∀ (a : Ask α) (w : World), w.drawn ≤ (w.ask a).2.drawn
  | .done a, w => Nat.le_refl _
  | .ask what range k, w => by
    unfold World.ask
    dsimp only
    split
    · exact ask_drawn _ w
    · exact Nat.le_trans (Nat.le_succ _) (ask_drawn _ { w with drawn := w.drawn + 1 })
theorem sys_drawn (w : World) (c : Sys) : w.drawn ≤ (w.sys c).2.drawn := by
  have h := ask_drawn (Kernel.perform c w.os) w
  unfold World.sys
  split
  · exact Nat.le_refl _
  · rename_i heq
    rw [heq] at h
    exact h
theorem viewStore_drawn {p : Program} {w w' : World} {at_ : Addr} {u : TypeId} {k : Addr} {v : Value} {b : Bool} {l : List Addr} (h : w.viewStore p at_ u k v b = .ok (w', l)) : w'.drawn = w.drawn := by
  unfold World.viewStore at h
  simp only [bind, Except.bind, pure, Except.pure] at h
  repeat' split at h
  all_goals first | cases h; done | skip
  all_goals (cases h; rfl)
theorem farStore_drawn {p : Program} {w w' : World} {a : Addr} {v : Value} {b : Bool} {l : List Addr} (h : w.farStore p a v b = .ok (w', l)) : w'.drawn = w.drawn := by
  unfold World.farStore at h
  split at h
  · split at h
    · rename_i r hr
      cases h
      exact viewStore_drawn hr
    · cases h
  · cases h
theorem freeze_drawn (w : World) (a : Addr) (n : Nat) : (w.freeze a n).drawn = w.drawn := by
  unfold World.freeze
  repeat' split
  all_goals rfl
theorem setCell_drawn (w : World) (a : Addr) (v : Value) : (w.setCell a v).drawn = w.drawn := by
  unfold World.setCell
  repeat' split
  all_goals rfl
theorem run_drawn {α : Type} (p : Program) : ∀ (s : Sem α) (w : World), RD w.drawn (s.run p w)
  | .pure a, w => Nat.le_refl _
  | .load m a k, w => by
    unfold Sem.run
    split
    · exact run_drawn p _ w
    · split
      · exact run_drawn p _ w
      · exact Nat.le_refl _
  | .store m a v k, w => by
    by_cases hv : (∃ c, v = .agg c) ∨ (∃ c, v = .tuple c)
    · rcases hv with ⟨c, rfl⟩ | ⟨c, rfl⟩ <;> exact Nat.le_refl _
    · rw [Sem.run]
      · split
        · split
          · exact Nat.le_refl _
          · exact RD.mono (Nat.le_of_eq (setCell_drawn ..).symm) (run_drawn p _ _)
        · split
          · rename_i heq
            exact RD.mono (Nat.le_of_eq (farStore_drawn heq).symm) (run_drawn p _ _)
          · exact Nat.le_refl _
      · intro c hc; exact hv (.inl ⟨c, hc⟩)
      · intro c hc; exact hv (.inr ⟨c, hc⟩)
  | .new o k, w => RD.mono (Nat.le_refl _) (run_drawn p (k w.heap.size) { w with heap := w.heap.push o })
  | .shape r k, w => run_drawn p (k (w.shape? r)) w
  | .freeze a n k, w => RD.mono (Nat.le_of_eq (freeze_drawn w a n).symm) (run_drawn p k (w.freeze a n))
  | .frozen a k, w => run_drawn p (k (w.frozen? a)) w
  | .getObj r k, w => by
    unfold Sem.run
    split
    · exact Nat.le_refl _
    · exact run_drawn p _ w
    · exact Nat.le_refl _
  | .setObj r o k, w => by
    unfold Sem.run
    split
    · exact Nat.le_refl _
    · exact RD.mono (Nat.le_refl _) (run_drawn p k { w with heap := w.heap.setIfInBounds r o })
    · exact Nat.le_refl _
  | .choose q k, w => by
    unfold Sem.run
    split
    · exact run_drawn p _ w
    · exact RD.mono (Nat.le_succ _) (run_drawn p _ { w with drawn := w.drawn + 1 })
  | .sys c k, w => RD.mono (sys_drawn w c) (run_drawn p (k (w.sys c).1) (w.sys c).2)
  | .program k, w => run_drawn p (k p) w
  | .mark _ k, w => run_drawn p k w
  | .halt h, w => Nat.le_refl _
theorem runT_drawn {α : Type} (p : Program) (s : Sem α) (w : World) (es : Array Event) : RD w.drawn (s.runT p w es).1 := by
  rw [Sem.runT_fst]
  exact run_drawn p s w
theorem ok_drawn {α : Type} {p : Program} {s : Sem α} {w w' : World} {a : α} (h : s.run p w = .ok a w') : w.drawn ≤ w'.drawn := by
  have := run_drawn p s w
  rw [h] at this
  exact this
theorem halt_drawn {α : Type} {p : Program} {s : Sem α} {w w' : World} {a : Halt} (h : s.run p w = .halt a w') : w.drawn ≤ w'.drawn := by
  have := run_drawn p s w
  rw [h] at this
  exact this
theorem okT_drawn {α : Type} {p : Program} {s : Sem α} {w w' : World} {a : α} {es es' : Array Event} (h : s.runT p w es = (.ok a w', es')) : w.drawn ≤ w'.drawn := by
  have := runT_drawn p s w es
  rw [h] at this
  exact this
theorem haltT_drawn {α : Type} {p : Program} {s : Sem α} {w w' : World} {a : Halt} {es es' : Array Event} (h : s.runT p w es = (.halt a w', es')) : w.drawn ≤ w'.drawn := by
  have := runT_drawn p s w es
  rw [h] at this
  exact this
def GD (n : Nat) : GStep → Prop
  | .go _ w _ => n ≤ w.drawn
  | .comm _ _ _ _ w _ => n ≤ w.drawn
  | .spawn _ _ w _ => n ≤ w.drawn
  | .count _ w _ => n ≤ w.drawn
  | .timer _ _ w _ => n ≤ w.drawn
  | .alone _ _ w _ => n ≤ w.drawn
  | .newcoro _ _ _ w _ => n ≤ w.drawn
  | .coroswitch _ _ _ w _ => n ≤ w.drawn
  | .collect _ w _ => n ≤ w.drawn
  | .watch _ w _ => n ≤ w.drawn
  | .ended _ _ _ => True
theorem GD.after {n : Nat} {es : Array Event} : ∀ {s : GStep}, GD n s → GD n (s.after es)
  | .go .., h => h
  | .comm .., h => h
  | .spawn .., h => h
  | .count .., h => h
  | .timer .., h => h
  | .alone .., h => h
  | .newcoro .., h => h
  | .coroswitch .., h => h
  | .collect .., h => h
  | .watch .., h => h
  | .ended .., _ => trivial
theorem GD.mono {n m : Nat} (hn : n ≤ m) : ∀ {s : GStep}, GD m s → GD n s
  | .go .., h => Nat.le_trans hn h
  | .comm .., h => Nat.le_trans hn h
  | .spawn .., h => Nat.le_trans hn h
  | .count .., h => Nat.le_trans hn h
  | .timer .., h => Nat.le_trans hn h
  | .alone .., h => Nat.le_trans hn h
  | .newcoro .., h => Nat.le_trans hn h
  | .coroswitch .., h => Nat.le_trans hn h
  | .collect .., h => Nat.le_trans hn h
  | .watch .., h => Nat.le_trans hn h
  | .ended .., _ => trivial
theorem GD.ite {n : Nat} {c : Prop} [Decidable c] {a b : GStep} (ha : GD n a) (hb : GD n b) : GD n (if c then a else b) := by
  split
  · exact ha
  · exact hb
theorem endWith_drawn (w : World) (fd : Nat) (t : ByteArray) (o : Outcome) : GD w.drawn (endWith w fd t o) := by
  unfold endWith
  dsimp only
  repeat' split
  all_goals exact trivial
theorem endPrinting_drawn (p : Program) (fr : Frame) (v : Value) (w : World) : GD w.drawn (endPrinting p fr v w) := by
  unfold endPrinting
  dsimp only
  repeat' split
  all_goals first
    | exact trivial
    | exact Nat.le_refl _
theorem endFatal_drawn (p : Program) (fr : Frame) (callers : List Frame) (dying : Option Dying) (m : String) (w : World) : GD w.drawn (endFatal p fr callers dying m w) := by
  unfold endFatal
  dsimp only
  split
  · rename_i h
    exact ok_drawn h
  · exact trivial
  · exact trivial
theorem writeOn_drawn (p : Program) (fr : Frame) (d : Dying) (f : Fatal) (w : World) : GD w.drawn (writeOn p fr d f w) := by
  unfold writeOn
  dsimp only
  split
  · exact trivial
  · split
    all_goals first
      | exact trivial
      | (rename_i h; exact okT_drawn h)
      | (rename_i h; exact haltT_drawn h)
theorem die_drawn (p : Program) (fr : Frame) (d : Dying) (w : World) : GD w.drawn (die p fr d w) := by
  unfold die
  dsimp only
  split
  · exact writeOn_drawn ..
  · split
    · split
      · exact Nat.le_refl _
      · exact endWith_drawn ..
    · split
      · exact Nat.le_refl _
      · split
        · rename_i h
          exact ok_drawn h
        · exact trivial
      · rename_i t recv name _
        have hr := runT_drawn p (invoke (.fn (.method name) #[]) #[.iface t recv]) w #[]
        revert hr
        generalize (invoke (.fn (.method name) #[]) #[.iface t recv]).runT p w #[] = re
        rcases re with ⟨r, es⟩
        intro hr
        refine GD.after ?_
        dsimp only at hr ⊢
        split
        all_goals first
          | exact trivial
          | exact hr
          | exact GD.mono hr (endPrinting_drawn ..)
      · exact trivial
theorem doReturn_drawn (p : Program) (main : Bool) (fr : Frame) (callers : List Frame) (dying : Option Dying) (v : Value) (w : World) : GD w.drawn (doReturn p main fr callers dying v w) := by
  unfold doReturn
  dsimp only
  repeat' split
  all_goals first
    | exact trivial
    | exact Nat.le_refl _
theorem callDeferred_drawn (p : Program) (fr : Frame) (callers : List Frame) (dying : Option Dying) (d : Deferred) (w : World) : GD w.drawn (callDeferred p fr callers dying d w) := by
  unfold callDeferred
  refine GD.ite trivial ?_
  · have hr := runT_drawn p (invoke d.target d.args) w #[]
    revert hr
    generalize (invoke d.target d.args).runT p w #[] = re
    rcases re with ⟨r, es⟩
    intro hr
    refine GD.after ?_
    dsimp only at hr ⊢
    repeat' split
    all_goals first
      | exact trivial
      | exact hr
      | exact GD.mono hr (endFatal_drawn ..)
theorem unwind_drawn (p : Program) (main : Bool) (fr : Frame) (callers : List Frame) (dying : Option Dying) (w : World) : GD w.drawn (unwind p main fr callers dying w) := by
  unfold unwind
  split
  · rename_i block _ ds _
    dsimp only
    have hr := runT_drawn p (Instr.takeDeferred block) w #[]
    revert hr
    generalize (Instr.takeDeferred block).runT p w #[] = re
    rcases re with ⟨r, es⟩
    intro hr
    refine GD.after ?_
    dsimp only at hr ⊢
    cases r with
    | ok a w => exact hr
    | halt a w => exact trivial
  · exact callDeferred_drawn ..
  · split
    · exact trivial
    · split
      · exact trivial
      · split
        · exact Nat.le_refl _
        · split
          · split
            · exact Nat.le_refl _
            · split
              · rename_i h
                exact ok_drawn h
              · exact trivial
              · exact trivial
          · split
            · exact endPrinting_drawn ..
            · exact trivial
    · split
      · exact doReturn_drawn ..
      · rename_i fn _
        dsimp only
        have hr := runT_drawn p (results fn fr.tmps) w #[]
        revert hr
        generalize (results fn fr.tmps).runT p w #[] = re
        rcases re with ⟨r, es⟩
        intro hr
        refine GD.after ?_
        dsimp only at hr ⊢
        split
        · exact GD.mono hr (doReturn_drawn ..)
        · exact trivial
        · exact trivial
theorem early_drawn (p : Program) (fr : Frame) (callers : List Frame) (dying : Option Dying) (g : Nat) (w : World) : GD w.drawn (early p fr callers dying g w) := by
  unfold early
  dsimp only
  repeat' split
  all_goals first
    | exact trivial
    | exact Nat.le_refl _
    | (simp only [GD]; exact ok_drawn (by assumption))
theorem apply_drawn (p : Program) (listen : Bool) (fr : Frame) (callers : List Frame) (dying : Option Dying) (s : Sem Next) (w : World) : GD w.drawn (stepG.apply p listen fr callers dying s w) := by
  unfold stepG.apply
  dsimp only
  have hr : RD w.drawn (if listen then s.runT p w #[] else (s.run p w, #[])).1 := by
    split
    · exact runT_drawn ..
    · exact run_drawn ..
  revert hr
  generalize (if listen then s.runT p w #[] else (s.run p w, #[])) = re
  rcases re with ⟨r, es⟩
  intro hr
  refine GD.after ?_
  dsimp only at hr ⊢
  split
  all_goals first
    | exact trivial
    | exact hr
    | exact GD.mono hr (endFatal_drawn ..)
    | exact GD.mono hr (early_drawn ..)
    | (refine GD.ite ?_ ?_ <;> first | exact trivial | exact hr)
    | (repeat' split
       all_goals first
         | exact trivial
         | exact hr)
theorem oper_drawn (p : Program) (listen : Bool) (fr : Frame) (callers : List Frame) (dying : Option Dying) (w : World) : GD w.drawn (stepG.oper p listen fr callers dying w) := by
  unfold stepG.oper
  split
  · exact trivial
  · split <;> exact apply_drawn ..
theorem exec_drawn (p : Program) (main listen : Bool) (fr : Frame) (callers : List Frame) (dying : Option Dying) (w : World) : GD w.drawn (stepG.exec p main listen fr callers dying w) := by
  unfold stepG.exec
  extract_lets go to lost leave
  have hgo : ∀ fr w', w.drawn ≤ w'.drawn → GD w.drawn (go fr w') := fun _ _ h => h
  have hto : ∀ t, GD w.drawn (to t) := fun _ => Nat.le_refl _
  have hlost : ∀ t, GD w.drawn (lost t) := fun _ => trivial
  have hleave : ∀ jump, GD w.drawn (leave jump) := by
    intro jump
    show GD w.drawn (match fr.roundOf with | none => _ | some l => _)
    split
    · exact GD.ite (Nat.le_refl _) trivial
    · rename_i l _
      dsimp only
      have hr := runT_drawn p (Instr.endRound l jump) w #[]
      revert hr
      generalize (Instr.endRound l jump).runT p w #[] = re
      rcases re with ⟨r, es⟩
      intro hr
      refine GD.after ?_
      cases r with
      | ok v w' => exact GD.mono hr (doReturn_drawn ..)
      | halt v w' => exact trivial
  clear_value go to lost leave
  split
  all_goals first
    | exact hto _
    | exact hleave _
    | exact hlost _
    | exact trivial
    | exact apply_drawn ..
    | skip
  · split
    · exact hto _
    · exact hlost _
  · cases exitTo _ _
    · exact hleave _
    · exact hto _
  · cases gotoIn _ _
    · exact hleave _
    · exact hto _
  · rename_i f params assign body k _
    have hr := runT_drawn p (Instr.enterLoop fr.fn fr.tmps params assign body fr.roundOf) w #[]
    revert hr
    generalize (Instr.enterLoop fr.fn fr.tmps params assign body fr.roundOf).runT p w #[] = re
    rcases re with ⟨r, es⟩
    intro hr
    refine GD.after ?_
    cases r with
    | ok v w' => exact GD.mono hr (apply_drawn ..)
    | halt v w' => exact trivial
  · rename_i l k _
    have hr := runT_drawn p (Instr.endLoop l) w #[]
    revert hr
    generalize (Instr.endLoop l).runT p w #[] = re
    rcases re with ⟨r, es⟩
    intro hr
    refine GD.after ?_
    split
    · exact hgo _ _ hr
    · exact hgo _ _ hr
    · exact trivial
  · cases Extern.next _
    · exact hlost _
    · exact apply_drawn ..
  · refine GD.ite (hto _) ?_
    split
    · rename_i h
      exact hgo _ _ (ok_drawn h)
    · exact trivial
  · exact GD.ite (oper_drawn ..) (hgo _ _ (Nat.le_refl _))
theorem stepG_drawn (p : Program) (main : Bool) (g : Goroutine) (w : World) (listen : Bool) : GD w.drawn (stepG p main g w listen) := by
  unfold stepG
  dsimp only
  split
  · exact die_drawn ..
  · exact exec_drawn ..
  · exact unwind_drawn ..
def SD (n : Nat) (s : Stepped) : Prop := ∀ m, s = .next m → n ≤ m.world.drawn
theorem SD.next {n : Nat} {m : Machine} (h : n ≤ m.world.drawn) : SD n (.next m) := fun _ e => by cases e; exact h
theorem SD.ended {n : Nat} {o : Outcome} {w : World} : SD n (.ended o w) := fun _ e => by cases e
theorem SD.mono {n m : Nat} {s : Stepped} (hn : n ≤ m) (h : SD m s) : SD n s := fun k e => Nat.le_trans hn (h k e)
theorem waitingAt_drawn {rest : Rest} {cases : Array CommCase} {w w' : World} (h : waitingAt rest cases w = some w') : w'.drawn = w.drawn := by
  unfold waitingAt at h
  repeat' split at h
  all_goals (cases h; try rfl)
theorem communicate_drawn (p : Program) (rest : Rest) (gs : Array Goroutine) (i : Nat) (g : Goroutine) (cases : Array CommCase) (blocking : Bool)
    (shape : CommShape) (w : World) : SD w.drawn (communicate p rest gs i g cases blocking shape w).1 := by
  intro m' h
  unfold communicate at h
  simp only [] at h
  repeat' first
    | (simp at h; done)
    | (replace h := Stepped.next.inj h
       subst h
       dsimp only
       first
         | exact Nat.le_refl _
         | exact ok_drawn (by assumption)
         | exact Nat.le_trans (ok_drawn (by assumption)) (ok_drawn (by assumption))
         | exact Nat.le_trans (ok_drawn (by assumption)) (halt_drawn (by assumption))
         | exact Nat.le_of_eq (waitingAt_drawn (by assumption)).symm)
    | split at h
theorem look_drawn (p : Program) (gs : Array Goroutine) (rest : Rest) (w : World) : SD w.drawn (look p gs rest w) := by
  intro m' h
  unfold look at h
  simp only [] at h
  repeat' first
    | (simp at h; done)
    | (replace h := Stepped.next.inj h
       subst h
       dsimp only
       exact ok_drawn (by assumption))
    | split at h
theorem drain_drawn (w : World) (c : Nat) : (drain w c).2.drawn = w.drawn := by
  unfold drain
  split <;> rfl
theorem retime_drawn (m : Machine) (k : Nat) (t : Timer) (a b : Nat) : (retime m k t a b).2.world.drawn = m.world.drawn := by
  unfold retime
  cases t.chan with
  | none => rfl
  | some c => exact drain_drawn _ c
theorem opened_drawn {m m' : Machine} {a : Addr} (h : timerOp.opened m a = some m') : m'.world.drawn = m.world.drawn := by
  unfold timerOp.opened at h
  repeat' split at h
  all_goals first
    | (cases h; rfl)
    | (cases h; done)
theorem named_drawn {m m' : Machine} {a : Addr} {f : Nat → Timer → Value × Machine} {v : Value} {n : Nat} (hf : ∀ k t, (f k t).2.world.drawn = n) (h : timerOp.named m a f = .ok (v, m')) : m'.world.drawn = n := by
  unfold timerOp.named at h
  split at h
  · have := congrArg (fun p : Value × Machine => p.2.world.drawn) (Except.ok.inj h)
    exact this.symm.trans (hf _ _)
  · cases h
theorem timerOp_drawn {m m' : Machine} {op : TimerOp} {v : Value} (h : timerOp m op = .ok (v, m')) : m'.world.drawn = m.world.drawn := by
  unfold timerOp at h
  split at h
  · repeat' split at h
    all_goals first
      | (cases h; rfl)
      | (cases h; done)
  · exact named_drawn (fun _ _ => retime_drawn ..) h
  · split at h
    · rename_i h1
      exact named_drawn (fun _ _ => (retime_drawn ..).trans (opened_drawn h1)) h
    · cases h
  · cases h
    rfl
theorem serve_drawn (p : Program) (m : Machine) (k : Nat) : SD m.world.drawn (serve p m k) := by
  unfold serve
  dsimp only
  split
  · exact SD.ended
  · exact SD.next (Nat.le_refl _)
  · repeat' split
    all_goals first
      | exact SD.ended
      | exact SD.next (Nat.le_refl _)
def MD (n : Nat) : Move → Prop
  | .goroutine m _ => n ≤ m.world.drawn
  | .machine s _ => SD n s
theorem MD.mono {n m : Nat} (hn : n ≤ m) : ∀ {s : Move}, MD m s → MD n s
  | .goroutine .., h => Nat.le_trans hn h
  | .machine .., h => SD.mono hn h
theorem askOn_drawn (p : Program) (m : Machine) : MD m.world.drawn (askOn p m) := by
  unfold askOn
  extract_lets mono rs ds pick
  have hpick : ∀ m', MD m'.world.drawn (pick m') := by
    intro m'
    show MD m'.world.drawn (match (choose (.sched rs.length)).run p m'.world with | .halt _ w => _ | .ok k world => _)
    split
    · exact SD.ended
    · rename_i k world h1
      have h1 := ok_drawn h1
      split
      · exact h1
      · split
        · exact SD.ended
        · rename_i h2
          exact Nat.le_trans h1 (ok_drawn h2)
  clear_value pick
  split
  · exact SD.ended
  · rename_i k world h1
    have h1 := ok_drawn h1
    split
    · exact SD.mono h1 (serve_drawn p _ _)
    · extract_lets m1 msg
      have hm : m.world.drawn ≤ m1.world.drawn := h1
      have hpick1 : ∀ w' : World, world.drawn ≤ w'.drawn → MD m.world.drawn (pick { m1 with world := w' }) := fun w' h => MD.mono (Nat.le_trans h1 h) (hpick _)
      have hpick2 : ∀ (w' : World) t, world.drawn ≤ w'.drawn → MD m.world.drawn (pick (Machine.advanceTo { m1 with world := w' } t)) := fun w' t h => MD.mono (Nat.le_trans h1 h) (hpick _)
      have hadv2 : ∀ (w' : World) t, world.drawn ≤ w'.drawn → MD m.world.drawn (.machine (.next (Machine.advanceTo { m1 with world := w' } t))) := fun w' t h => SD.next (Nat.le_trans h1 h)
      have hadv : ∀ t, m.world.drawn ≤ (m1.advanceTo t).world.drawn := fun _ => h1
      clear_value m1 msg rs
      cases rs with
      | nil =>
        dsimp only
        split
        · exact SD.next (hadv _)
        · split
          · exact SD.next hm
          · split
            · exact SD.ended
            · exact SD.ended
      | cons r rs =>
        dsimp only
        split
        · exact MD.mono hm (hpick _)
        · split
          · exact SD.ended
          · rename_i h2
            exact hpick1 _ (ok_drawn h2)
          · rename_i h2
            exact hadv2 _ _ (ok_drawn h2)
          · rename_i h2
            exact hpick2 _ _ (ok_drawn h2)
theorem ask_drawn' (p : Program) (m : Machine) : MD m.world.drawn (ask p m) := by
  unfold ask
  split
  · split
    · exact SD.ended
    · rename_i h1
      have h1 := ok_drawn h1
      split
      · rename_i h2
        exact MD.mono (Nat.le_trans h1 (look_drawn _ _ _ _ _ h2)) (askOn_drawn ..)
      · rename_i h2
        exact SD.mono h1 (look_drawn p _ _ _)
    · rename_i h1
      have h1 := ok_drawn h1
      exact MD.mono h1 (askOn_drawn ..)
  · exact askOn_drawn ..
theorem move_drawn (p : Program) (m : Machine) : MD m.world.drawn (move p m) := by
  unfold move
  split
  · split
    · exact Nat.le_refl _
    · exact SD.ended
  · split
    · split
      · exact Nat.le_refl _
      · exact ask_drawn' p { m with rest := _ }
    · exact ask_drawn' p m
theorem runT_SD (p : Program) (m : Machine) (i : Nat) (b : Bool) : SD m.world.drawn (runT p m i b).1 := by
  simp only [runT]
  generalize m.gs.swapAt! _ _ = gg
  have hs := stepG_drawn p (i == 0) gg.1 m.world b
  revert hs
  generalize stepG p _ gg.1 m.world b = s
  intro hs
  cases s <;> simp only [] <;> simp only [GD] at hs
  all_goals first
    | exact SD.ended
    | exact SD.next hs
    | exact SD.mono hs (communicate_drawn p _ _ _ _ _ _ _ _)
    | exact SD.mono hs (look_drawn p _ _ _)
    | skip
  · split
    · exact SD.ended
    · exact SD.next hs
  · split
    · rename_i h
      exact SD.next (Nat.le_trans hs (Nat.le_of_eq (timerOp_drawn h).symm))
    · exact SD.next hs
    · exact SD.ended
    · exact SD.ended
  · split
    · exact SD.next hs
    · exact SD.next hs
    · exact SD.ended
theorem stepT_SD (p : Program) (m : Machine) (b : Bool) : SD m.world.drawn (stepT p m b).1 := by
  have h := move_drawn p m
  simp only [stepT]
  split
  next m₁ i hm =>
    rw [hm] at h
    exact SD.mono h (runT_SD p m₁ i b)
  next s ops hm =>
    rw [hm] at h
    exact h
theorem step_drawn {p : Program} {m m' : Machine} (h : Go.step p m = .next m') : m.world.drawn ≤ m'.world.drawn := stepT_SD p m true m' h
theorem runN_drawn {p : Program} : ∀ (n : Nat) {m m' : Machine}, runN p n m = .next m' → m.world.drawn ≤ m'.world.drawn
  | 0, m, m', h => by
    simp only [runN, Stepped.next.injEq] at h
    rw [h]
    exact Nat.le_refl _
  | n + 1, m, m', h => by
    simp only [runN] at h
    cases hs : Go.step p m with
    | next m1 =>
      rw [hs] at h
      exact Nat.le_trans (step_drawn hs) (runN_drawn n h)
    | ended o w =>
      rw [hs] at h
      cases h
theorem steps_drawn {p : Program} {m m' : Machine} (h : Steps p m m') : m.world.drawn ≤ m'.world.drawn := by
  obtain ⟨n, hn⟩ := h
  exact runN_drawn n hn
theorem calls_drawn {P : Program} {f : FuncId} {args : Array Value} {w : World} {R : Ending → World → Prop} (h : Calls P f args w R) (hr : ∀ e w', R e w' → ∃ v, e = .returned v) :
    Calls P f args w fun e w' => R e w' ∧ w.drawn ≤ w'.drawn := by
  intro cs
  obtain ⟨e, w', fr, h1, h2, h3, h4⟩ := h cs
  obtain ⟨v, rfl⟩ := hr e w' h1
  exact ⟨_, w', fr, ⟨h1, steps_drawn h2⟩, h2, h3, h4⟩
end Go.Abs
