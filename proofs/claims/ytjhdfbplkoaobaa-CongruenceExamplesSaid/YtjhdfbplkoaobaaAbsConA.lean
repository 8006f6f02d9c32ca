/- What the functions of package congruence do: find and union. -/
import Derived.Test.YtjhdfbplkoaobaaAbsUf
import Derived.Test.YtjhdfbplkoaobaaAbsKodeA
set_option linter.unusedVariables false
set_option linter.unusedSimpArgs false
namespace Go.Abs
open Go.Proofs.Try (prog)

theorem mixed : prog.follows .mixedOrders = true := by kernel_rfl

/-- No call is a value. -/
def noq : FuncId → List V → Heap → Option V := fun _ _ _ => none
theorem noq_ok : QOk prog noq where
  sound := by intro f args h v hv; cases hv
  mono := by intro f args h h' v _ hv; cases hv

/-- find returns the root and keeps the sets. -/
theorem ac59 {h : Heap} {b n : Nat} {cap : Option Nat} {e : TypeId} {p : List Nat} {i : Nat} (hb : h b = some (.cells e 1 (nats p))) (hn : n = p.length) (hF : Forest p) (hi : i < p.length) :
    AC prog 59 [.sl 1 b 0 n cap, .int .i64 i] h fun v h' => v = .int .i64 (root p i : Nat) ∧ ∃ p', SameF p p' ∧ h' = upd h b (.cells e 1 (nats p')) := by
  subst hn
  refine AC_of noq_ok mixed t59 ?_
  simp [c59, l59_0]
  refine W_loop (fun m tm h1 => ∃ (q : List Nat), tm 0 = .sl 1 b 0 p.length cap ∧ tm 1 = .int .i64 (m : Nat) ∧ SameF p q ∧ m < p.length ∧ root p m = root p i ∧ h1 = upd h b (.cells e 1 (nats q))) i ⟨p, rfl, rfl, .refl hF, hi, rfl, (upd_self hb).symm⟩ ?_
  rintro m tm h1 ⟨q, h0, h1', hS, hj, hr, rfl⟩
  have hjq : m < q.length := by rw [hS.len]; exact hj
  have hkq : q[m] < q.length := Nat.lt_of_le_of_lt (hS.forest m hjq) hjq
  have hkp : q[m] < p.length := by rw [← hS.len]; exact hkq
  simp [b59_0, h0, h1', hjq, hj, upd_at]
  refine Wc_intro (fun hc => ?_) (fun hc => ?_)
  · simp at hc
    have hlt : q[m] < m := Nat.lt_of_le_of_ne (hS.forest m hjq) (fun e => hc (by omega))
    have hll : q[q[m]] < m := Nat.lt_of_le_of_lt (hS.forest _ hkq) hlt
    simp [s59_0, h0, h1', hjq, hj, upd_at, hkq, hkp]
    refine ⟨hjq, q[q[m]], hll, rfl, q.set m q[q[m]], ?_, ?_, ?_, ?_⟩
    · refine hS.trans (SameF.set hS.forest hjq hll ?_)
      rw [root_step hS.forest hkq, root_step hS.forest hjq]
    · omega
    · rw [← hr, ← hS.same m hj, ← root_step hS.forest hjq, ← root_step hS.forest hkq, hS.same _ (by omega)]
    · rw [upd_upd, nats_set]
  · simp at hc
    have hself : root p m = m := by rw [← hS.same m hj]; exact root_self hjq (by omega)
    simp [s59_1, h1']
    exact keepAll ⟨by rw [← hr, hself], q, hS, rfl⟩

/-- What union leaves: the joined sets. -/
structure JoinF (p : List Nat) (i j : Nat) (p' : List Nat) : Prop where
  forest : Forest p'
  len : p'.length = p.length
  join : ∀ k, k < p.length → root p' k = if root p k = root p i ∨ root p k = root p j then min (root p i) (root p j) else root p k

theorem ac57 {h : Heap} {b n : Nat} {cap : Option Nat} {e : TypeId} {p : List Nat} {i j : Nat} (hb : h b = some (.cells e 1 (nats p))) (hn : n = p.length) (hF : Forest p) (hi : i < p.length) (hj : j < p.length) :
    AC prog 57 [.sl 1 b 0 n cap, .int .i64 i, .int .i64 j] h fun v h' => v = .bool (root p i != root p j) ∧ ∃ p', JoinF p i j p' ∧ h' = upd h b (.cells e 1 (nats p')) := by
  subst hn
  refine AC_of noq_ok mixed t57 ?_
  simp [c57]
  refine (ac59 hb rfl hF hi).mono ?_
  rintro v h1 ⟨rfl, p1, hS1, rfl⟩
  simp [r57_0]
  refine (ac59 (p := p1) (i := j) (upd_eq _ _ _) hS1.len.symm hS1.forest (by rw [hS1.len]; exact hj)).mono ?_
  rintro v h1 ⟨rfl, p2, hS2, rfl⟩
  rw [upd_upd]
  have hj1 : root p1 j = root p j := hS1.same j hj
  rw [hj1]
  have hS := hS1.trans hS2
  simp [r57_1, s57_0]
  refine Wc_intro (fun hc => ?_) (fun hc => ?_)
  · simp at hc
    have hc' : root p i = root p j := by omega
    refine keepAll ⟨hc', p2, ⟨hS.forest, hS.len, fun k hk => ?_⟩, rfl⟩
    rw [hS.same k hk, hc']
    split <;> omega
  · simp at hc
    have hc' : root p i ≠ root p j := by omega
    have hri := root_lt hi (p := p)
    have hrj := root_lt hj (p := p)
    have ri2 : root p2 (root p i) = root p i := by rw [hS.same _ hri, root_idem hF hi]
    have rj2 : root p2 (root p j) = root p j := by rw [hS.same _ hrj, root_idem hF hj]
    have hl2 := hS.len
    rcases Nat.lt_or_ge (root p i) (root p j) with c | c
    · have e1 : min (root p i : Int) (root p j) = root p i := by omega
      have e2 : max (root p i : Int) (root p j) = root p j := by omega
      obtain ⟨g1, g2⟩ := join_root hS.forest (a := root p i) (b := root p j) (by omega) c ri2 rj2
      simp [s57_1, e1, e2, hrj, upd_at]
      refine ⟨by omega, keepAll ⟨hc', p2.set (root p j) (root p i), ⟨g1, by simpa using hl2, fun k hk => ?_⟩, ?_⟩⟩
      · rw [g2 k (by omega), hS.same k hk]
        split
        · rename_i e5; rw [if_pos (.inr e5)]; omega
        · rename_i e5
          split
          · rename_i e6; omega
          · rfl
      · rw [upd_upd, nats_set]
    · have e1 : min (root p i : Int) (root p j) = root p j := by omega
      have e2 : max (root p i : Int) (root p j) = root p i := by omega
      obtain ⟨g1, g2⟩ := join_root hS.forest (a := root p j) (b := root p i) (by omega) (by omega) rj2 ri2
      simp [s57_1, e1, e2, hri, upd_at]
      refine ⟨by omega, keepAll ⟨hc', p2.set (root p i) (root p j), ⟨g1, by simpa using hl2, fun k hk => ?_⟩, ?_⟩⟩
      · rw [g2 k (by omega), hS.same k hk]
        split
        · rename_i e5; rw [if_pos (.inl e5)]; omega
        · rename_i e5
          split
          · rename_i e6; omega
          · rfl
      · rw [upd_upd, nats_set]

end Go.Abs
