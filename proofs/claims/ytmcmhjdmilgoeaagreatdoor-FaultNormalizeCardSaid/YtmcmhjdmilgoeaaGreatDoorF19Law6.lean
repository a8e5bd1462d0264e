/- FaultNormalize: the plain law. -/
import Derived.Test.YtmcmhjdmilgoeaaGreatDoorNrm2
import Derived.Test.YtmcmhjdmilgoeaaGreatDoorAw19
namespace Go.Abs
theorem f6_true (x : List Flt) (a1 a2 : BitVec 16) : f6 x a1 a2 = some true := by
  unfold f6
  rw [f12_true, some_bind, some_bind]
  by_cases h : x.length > 40
  · rw [if_pos (by simp; omega)]
  · rw [if_neg (by simp; omega), f14_eq x (by omega), some_bind, f25_eq x (by omega), some_bind, f26_eq x (by omega), some_bind]
    dsimp only
    have hne : ((nrmF x).1 != (nrmF x).1) = false := by simp
    have hnl := normP_len x
    have hl2 : (nrmF x).2.length ≤ 65536 := by
      unfold nrmF
      split
      · exact Nat.zero_le _
      · split
        · exact Nat.zero_le _
        · unfold limF; split
          · exact Nat.zero_le _
          · exact Nat.le_trans hnl (by omega)
    rw [hne, show ((false == false) = true) from rfl, optc_t, f22_eq _ _ hl2, some_bind, decide_eq_true rfl]
    by_cases h0 : (nrmF x).1 = 0
    · rw [if_neg (by simp [h0]), f13_eq, some_bind]
      unfold nrmF at h0 ⊢
      by_cases hx : x.length = 0
      · rw [if_pos hx] at h0; cases h0
      rw [if_neg hx] at h0 ⊢
      cases he : errs x with
      | some e => rw [he] at h0; exact absurd h0 (errs_some_ne he)
      | none =>
        rw [he] at h0
        dsimp only at h0 ⊢
        have hz := errs_none.1 he
        have hd : ∀ a, a ∈ x → disj a := fun a ha => (errF_zero.1 (hz a ha)).2
        unfold limF at h0 ⊢
        by_cases h1 : (normP x).length > 100
        · rw [if_pos h1] at h0; cases h0
        rw [if_neg h1]
        have hv := valid_ok (normP x) (normP_ok x hz) (norm_ne hd (fun e => hx (by rw [e]; rfl))) (by omega)
        rw [hv, show (((0 : Int) == 0) == true) = true from rfl, optc_t]
        have e1 := f18_eq (normP x) (a1, a2) (by omega)
        have e2 := f19_eq x (a1, a2) (by omega)
        dsimp only at e1 e2
        rw [e1, some_bind, optc_t, e2, some_bind, tol_norm x hd]
        simp
    · rw [if_pos (by simpa using h0)]
      simp only [beq_self_eq_true]
      rw [optc_t]
      rfl
end Go.Abs
