/- Rules that shorten printed proofs. -/
import Derived.Test.YtmcmhjdmilgoeaaGreatDoorAbsX
namespace Go.Abs
open Go
theorem AWp.sq {P : Program} (W : List Nat) {Q : Exit → S → Prop} {id : Nat} {draw : Bool} {y : Code} (calls : List (Nat × CC)) (ds rs : List Nat) {l : List Oper} {s : S} (s' : S) (φ : Prop) (hm : P.follows .mixedOrders = true)
    (h : Abs.regC P W draw calls ds rs l s = some (s', φ)) (hφ : φ) (hQ : AWp P y Q s') : AWp P (.seq (.region id l.toArray draw) y) Q s :=
  AWp.seq (AWp.regC W calls ds rs s' φ hm h hφ (thenQ_normal hQ))
theorem an1 {a : Prop} (ha : a) : a ∧ True := ⟨ha, trivial⟩
theorem an2 {a b : Prop} (ha : a) (hb : b) : a ∧ b ∧ True := ⟨ha, hb, trivial⟩
theorem an3 {a b c : Prop} (ha : a) (hb : b) (hc : c) : a ∧ b ∧ c ∧ True := ⟨ha, hb, hc, trivial⟩
theorem an4 {a b c d : Prop} (ha : a) (hb : b) (hc : c) (hd : d) : a ∧ b ∧ c ∧ d ∧ True := ⟨ha, hb, hc, hd, trivial⟩
theorem an5 {a b c d e : Prop} (ha : a) (hb : b) (hc : c) (hd : d) (he : e) : a ∧ b ∧ c ∧ d ∧ e ∧ True := ⟨ha, hb, hc, hd, he, trivial⟩
theorem an6 {a b c d e f : Prop} (ha : a) (hb : b) (hc : c) (hd : d) (he : e) (hf : f) : a ∧ b ∧ c ∧ d ∧ e ∧ f ∧ True := ⟨ha, hb, hc, hd, he, hf, trivial⟩
/-! ### Result boxes: read at the return, then gone -/
def dropH (ids : List Nat) (h : Heap) : Heap := h.filter fun p => !(ids.contains p.1)
theorem dropH_get (ids : List Nat) : ∀ (h : Heap) (r : Nat) (b : Blk), (dropH ids h).get r = some b → h.get r = some b
  | [], r, b, hb => by simp [dropH, Heap.get] at hb
  | (k, c) :: h, r, b, hb => by
    unfold dropH at hb
    rw [List.filter_cons] at hb
    split at hb
    · simp only [Heap.get] at hb ⊢
      split at hb
      · rename_i e; rw [if_pos e]; exact hb
      · rename_i e; rw [if_neg e]; exact dropH_get ids h r b hb
    · rename_i hk
      have hr := dropH_get ids h r b hb
      simp only [Heap.get]
      split
      · rename_i e
        subst e
        -- the number is dropped everywhere
        exfalso
        have : ∀ (h : Heap) (b : Blk), ids.contains k = true → (dropH ids h).get k = some b → False := by
          intro h
          induction h with
          | nil => intro b _ hb; simp [dropH, Heap.get] at hb
          | cons p h ih =>
            intro b hc hb
            unfold dropH at hb
            rw [List.filter_cons] at hb
            split at hb
            · rename_i hp
              simp only [Heap.get] at hb
              split at hb
              · rename_i e; rw [e, hc] at hp; cases hp
              · exact ih b hc hb
            · exact ih b hc hb
        exact this h b (by simpa using hk) hb
      · exact hr
theorem WSim.drop {z : Start} {St : Nat → Prop} {g : Gh} {h : Heap} {w : World} (hW : WSim z St g h w) (ids : List Nat) : WSim z St g (dropH ids h) w :=
  ⟨hW.frm, hW.st0, hW.st1, fun r b v hb => hW.ow r b v (dropH_get ids h r b hb), fun r b hb => hW.ok r b (dropH_get ids h r b hb),
   fun r r' b b' v v' hb hb' => hW.sep r r' b b' v v' (dropH_get ids h r b hb) (dropH_get ids h r' b' hb')⟩
theorem Spec1.bodyD {P : Program} {f : FuncId} {fn : Func} {c : Code} {N : Nat} {h0 : Heap} {args : List V} {r : V} {h1 : Heap} (ids : List Nat) (o : Nat) (gs : List (Nat × V)) (bk : List Nat) (hf : P.funcs[f]? = some fn) (hb : fn.body = some c) (hN : fn.ntmps = N) (hle : Nat.ble args.length N = true) (hG : Nat.ble N 1000000 = true)
    (h : AWp P c (bodyQ P fn bk (fun v h => v = r ∧ dropH ids h = h1)) ⟨N, initT 0 args ++ globT gs, h0, bk, o⟩) : Spec1 P f gs bk h0 args r h1 := by
  have hs := Spec.body o gs bk hf hb hN (Nat.le_of_ble_eq_true hle) (Nat.le_of_ble_eq_true hG) h
  intro z vals h1' h2 h3 h4
  refine (hs z vals h1' h2 h3 h4).mono ?_
  rintro e w' ⟨x, r', hh, St', g', he, ⟨rfl, rfl⟩, hW, hrel, hk⟩
  exact ⟨x, r', _, St', g', he, ⟨rfl, rfl⟩, hW.drop ids, hrel, hk⟩
end Go.Abs
