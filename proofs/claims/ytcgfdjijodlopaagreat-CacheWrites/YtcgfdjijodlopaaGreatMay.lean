/- A part of proofs about the given program. No condition. -/
import Derived.Test.YtcgfdjijodlopaaGreatLS3
import Derived.Test.YtcgfdjijodlopaaGreatSets
set_option linter.all false
namespace Mes
variable {C : LC}

theorem ok_homes {c : Cfg} (h : c.ok = true) : 1 ≤ c.homes ∧ c.homes ≤ 16 := by
  simp only [Cfg.ok, isPow, pows, Bool.and_eq_true] at h
  have := h.1.1.1.1.1.1.1.1.1.1.1.2
  simp at this
  omega
theorem ok_cores {c : Cfg} (h : c.ok = true) : 1 ≤ c.cores ∧ c.cores ≤ 64 := by
  simp only [Cfg.ok, Bool.and_eq_true] at h
  exact inC_iff.1 h.1.1.1.1.1.1.1.1.1.1.1.1

theorem may_mk {m : Msg} (h : C.c.ok = true) (hl : 0 ≤ C.l ∧ C.l < C.c.lines) (hm : m.line = C.l) (hk : 1 ≤ m.kind ∧ m.kind ≤ 11) (hf : m.form C.c = true) : m.may C.c = true := by
  unfold Msg.may
  simp only [Bool.and_eq_true, h, hf, hm, inR_iff, hl.1, hl.2, true_and, and_true, bne_iff_ne]
  unfold netOf
  split
  · simp
  · split
    · simp
    · split
      · simp
      · omega

section
variable (h : C.c.ok = true) (hl : 0 ≤ C.l ∧ C.l < C.c.lines)
include h hl
theorem may_req {i k : Int} (hi : 0 ≤ i ∧ i < C.c.cores) (hk : k = 1 ∨ k = 2) : (mReq C i k).may C.c = true := by
  refine may_mk h hl rfl (by simp only [mReq]; omega) ?_
  rcases hk with rfl | rfl <;> simp [Msg.form, mReq, plainMsg, inR_iff, hi, LC.h]
theorem may_put {i : Int} {w : Words} (hi : 0 ≤ i ∧ i < C.c.cores) (hw : valuesOk C.c w = true) : (mPut C i w).may C.c = true := by
  refine may_mk h hl rfl (by simp [mPut]) ?_
  simp [Msg.form, mPut, plainMsg, inR_iff, hi, LC.h, hw]
theorem may_fwdS {o r : Int} (hi : 0 ≤ o ∧ o < C.c.cores) (hr : 0 ≤ r ∧ r < C.c.cores) (hn : o ≠ r) : (mFwdS C o r).may C.c = true := by
  refine may_mk h hl rfl (by simp [mFwdS]) ?_
  simp [Msg.form, mFwdS, inR_iff, hi, hr, LC.h, Ne.symm hn]
theorem may_fwdM {o r A : Int} (hi : 0 ≤ o ∧ o < C.c.cores) (hr : 0 ≤ r ∧ r < C.c.cores) (hn : o ≠ r) (hA : 0 ≤ A ∧ A < C.c.cores) : (mFwdM C o r A).may C.c = true := by
  refine may_mk h hl rfl (by simp [mFwdM]) ?_
  simp [Msg.form, mFwdM, inR_iff, hi, hr, LC.h, Ne.symm hn, hA]
theorem may_inv {o r : Int} (hi : 0 ≤ o ∧ o < C.c.cores) (hr : 0 ≤ r ∧ r < C.c.cores) (hn : o ≠ r) : (mInv C o r).may C.c = true := by
  refine may_mk h hl rfl (by simp [mInv]) ?_
  simp [Msg.form, mInv, inR_iff, hi, hr, LC.h, Ne.symm hn]
theorem may_data {f r w A own : Int} {ws : Words} (hr : 0 ≤ r ∧ r < C.c.cores) (hA : 0 ≤ A ∧ A < C.c.cores) (ho : own = 1 ∨ own = 2 ∨ own = 4)
    (hf : (w = 0 ∧ f = C.h) ∨ (w = 1 ∧ (0 ≤ f ∧ f < C.c.cores) ∧ f ≠ r)) (hw : valuesOk C.c ws = true) : (mData C f r w A own ws).may C.c = true := by
  refine may_mk h hl rfl (by simp [mData]) ?_
  rcases hf with ⟨rfl, rfl⟩ | ⟨rfl, hf, hn⟩
  · rcases ho with rfl | rfl | rfl <;> simp [Msg.form, mData, inR_iff, hr, LC.h, hA, hw]
  · rcases ho with rfl | rfl | rfl <;> simp [Msg.form, mData, inR_iff, hr, hA, hw, hf, hn]
theorem may_grant {r A : Int} (hr : 0 ≤ r ∧ r < C.c.cores) (hA : 0 ≤ A ∧ A < C.c.cores) : (mGrant C r A).may C.c = true := by
  refine may_mk h hl rfl (by simp [mGrant]) ?_
  simp [Msg.form, mGrant, inR_iff, hr, LC.h, hA, plainMsg]
theorem may_ack {o r : Int} (hi : 0 ≤ o ∧ o < C.c.cores) (hr : 0 ≤ r ∧ r < C.c.cores) (hn : o ≠ r) : (mAck C o r).may C.c = true := by
  refine may_mk h hl rfl (by simp [mAck]) ?_
  simp [Msg.form, mAck, inR_iff, hi, hr, plainMsg, hn]
theorem may_putAck {r : Int} (hr : 0 ≤ r ∧ r < C.c.cores) : (mPutAck C r).may C.c = true := by
  refine may_mk h hl rfl (by simp [mPutAck]) ?_
  simp [Msg.form, mPutAck, inR_iff, hr, LC.h, plainMsg]
theorem may_done {r : Int} (hr : 0 ≤ r ∧ r < C.c.cores) : (mDone C r).may C.c = true := by
  refine may_mk h hl rfl (by simp [mDone]) ?_
  simp [Msg.form, mDone, inR_iff, hr, LC.h, plainMsg]
end

theorem valuesOk_zero (c : Cfg) : valuesOk c Words.zero = true := by
  simp only [valuesOk, List.all_eq_true, List.mem_range]
  intro i hi
  have : Words.zero.get i = 0 := by
    simp only [Words.get, Words.zero, List.getD_eq_getElem?_getD, List.getElem?_replicate, hi, if_true, Option.getD_some]
  simp [wordOk, this, inC_iff]

/-- acks and bounds of a message that may be -/
theorem fwdM_bounds {o r A : Int} (h : (mFwdM C o r A).may C.c = true) : (0 ≤ r ∧ r < C.c.cores) ∧ (0 ≤ o ∧ o < C.c.cores) ∧ (0 ≤ A ∧ A < C.c.cores) := by
  simp only [Msg.may, Bool.and_eq_true] at h
  have := h.2
  simp [Msg.form, mFwdM, inR_iff] at this
  omega
theorem fwdS_bounds {o r : Int} (h : (mFwdS C o r).may C.c = true) : (0 ≤ r ∧ r < C.c.cores) ∧ (0 ≤ o ∧ o < C.c.cores) := by
  simp only [Msg.may, Bool.and_eq_true] at h
  have := h.2
  simp [Msg.form, mFwdS, inR_iff] at this
  omega
theorem inv_bounds {o r : Int} (h : (mInv C o r).may C.c = true) : (0 ≤ r ∧ r < C.c.cores) ∧ (0 ≤ o ∧ o < C.c.cores) := by
  simp only [Msg.may, Bool.and_eq_true] at h
  have := h.2
  simp [Msg.form, mInv, inR_iff] at this
  omega
end Mes
