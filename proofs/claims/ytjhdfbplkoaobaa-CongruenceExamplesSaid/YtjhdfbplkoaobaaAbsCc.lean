/- The congruence closure of a list of nodes and pairs, and the one list that tells its classes. -/
import Derived.Test.YtjhdfbplkoaobaaAbsConB
set_option linter.unusedVariables false
set_option linter.unusedSimpArgs false
namespace Go.Abs

theorem byte8_nat {u : Int} (h : 0 ≤ u) (i : Nat) : byte8 u i = (u / 2 ^ (8 * i)) % 256 := by
  unfold byte8
  rw [Int.fdiv_eq_ediv_of_nonneg _ (by exact Int.pow_nonneg (by omega))]
  simp only [IntKind.wrap, IntKind.signed, IntKind.bits]
  simp

theorem byte8_inj {u v : Int} (hu : 0 ≤ u) (hv : 0 ≤ v) (hu' : u < 18446744073709551616) (hv' : v < 18446744073709551616) (h : ∀ i, i < 8 → byte8 u i = byte8 v i) : u = v := by
  have h0 := h 0 (by omega)
  have h1 := h 1 (by omega)
  have h2 := h 2 (by omega)
  have h3 := h 3 (by omega)
  have h4 := h 4 (by omega)
  have h5 := h 5 (by omega)
  have h6 := h 6 (by omega)
  have h7 := h 7 (by omega)
  simp only [byte8_nat hu, byte8_nat hv] at h0 h1 h2 h3 h4 h5 h6 h7
  simp at h0 h1 h2 h3 h4 h5 h6 h7
  omega

theorem chunk_inj {u v : Int} (hu : 0 ≤ u) (hv : 0 ≤ v) (hu' : u < 18446744073709551616) (hv' : v < 18446744073709551616)
    (h : ((List.range 8).map fun i => UInt8.ofNat (byte8 u i).toNat) = (List.range 8).map fun i => UInt8.ofNat (byte8 v i).toNat) : u = v := by
  refine byte8_inj hu hv hu' hv' fun i hi => ?_
  have h2 := congrArg (fun l => l[i]?) h
  simp [hi] at h2
  have h3 := congrArg UInt8.toNat h2
  rw [UInt8.toNat_ofNat', UInt8.toNat_ofNat'] at h3
  have a1 : 0 ≤ byte8 u i ∧ byte8 u i < 256 := by rw [byte8_nat hu]; omega
  have a2 : 0 ≤ byte8 v i ∧ byte8 v i < 256 := by rw [byte8_nat hv]; omega
  omega

theorem keyStr_inj : ∀ {l l' : List Int}, (∀ u ∈ l, 0 ≤ u ∧ u < 18446744073709551616) → (∀ u ∈ l', 0 ≤ u ∧ u < 18446744073709551616) → keyStr l = keyStr l' → l = l' := by
  have main : ∀ {l l' : List Int}, (∀ u ∈ l, 0 ≤ u ∧ u < 18446744073709551616) → (∀ u ∈ l', 0 ≤ u ∧ u < 18446744073709551616) →
      (l.flatMap fun u => (List.range 8).map fun i => UInt8.ofNat (byte8 u i).toNat) = (l'.flatMap fun u => (List.range 8).map fun i => UInt8.ofNat (byte8 u i).toNat) → l = l' := by
    intro l
    induction l with
    | nil =>
      intro l' _ _ h
      cases l' with
      | nil => rfl
      | cons b l' =>
        have := congrArg List.length h
        simp at this
        omega
    | cons a l ih =>
      intro l' h1 h2 h
      cases l' with
      | nil =>
        have := congrArg List.length h
        simp at this
      | cons b l' =>
        rw [List.flatMap_cons, List.flatMap_cons] at h
        obtain ⟨e1, e2⟩ := List.append_inj h (by simp)
        have a1 := h1 a (by simp)
        have a2 := h2 b (by simp)
        rw [chunk_inj a1.1 a2.1 a1.2 a2.2 e1, ih (fun u hu => h1 u (by simp [hu])) (fun u hu => h2 u (by simp [hu])) e2]
  intro l l' h1 h2 h
  refine main h1 h2 ?_
  have := congrArg (fun b : ByteArray => b.data.toList) h
  simpa [keyStr] using this

def Nd.wf (n : Nd) : Prop := (-9223372036854775808 ≤ n.op ∧ n.op ≤ 9223372036854775807) ∧ (-9223372036854775808 ≤ n.imm ∧ n.imm ≤ 9223372036854775807)

theorem wrap_u64_inj {a b : Int} (ha : -9223372036854775808 ≤ a ∧ a ≤ 9223372036854775807) (hb : -9223372036854775808 ≤ b ∧ b ≤ 9223372036854775807) (h : IntKind.u64.wrap a = IntKind.u64.wrap b) : a = b := by
  simp only [IntKind.wrap, IntKind.signed, IntKind.bits] at h
  simp at h
  omega

/-- Congruence closure. -/
inductive Cl (l : List Nd) (ps : List (Int × Int)) : Nat → Nat → Prop
  | refl {i : Nat} : i < l.length → Cl l ps i i
  | symm {i j : Nat} : Cl l ps i j → Cl l ps j i
  | trans {i j k : Nat} : Cl l ps i j → Cl l ps j k → Cl l ps i k
  | pair {i j : Nat} : ((i : Int), (j : Int)) ∈ ps → i < l.length → j < l.length → Cl l ps i j
  | cong {i j : Nat} {x y : Nd} : l[i]? = some x → l[j]? = some y → x.op = y.op → x.imm = y.imm → x.kids.length = y.kids.length → kidsIn l.length x.kids = true → kidsIn l.length y.kids = true →
      (∀ (t a b : Nat), x.kids[t]? = some (a : Int) → y.kids[t]? = some (b : Int) → Cl l ps a b) → Cl l ps i j

theorem Cl.lt {l : List Nd} {ps : List (Int × Int)} {i j : Nat} (h : Cl l ps i j) : i < l.length ∧ j < l.length := by
  induction h with
  | refl h => exact ⟨h, h⟩
  | symm _ ih => exact ⟨ih.2, ih.1⟩
  | trans _ _ a b => exact ⟨a.1, b.2⟩
  | pair _ a b => exact ⟨a, b⟩
  | cong h1 h2 => exact ⟨(List.getElem?_eq_some_iff.1 h1).1, (List.getElem?_eq_some_iff.1 h2).1⟩

/-- The list of the classes' smallest members. -/
structure IsCl (l : List Nd) (ps : List (Int × Int)) (c : List Nat) : Prop where
  len : c.length = l.length
  cl : ∀ i (h : i < c.length), Cl l ps i c[i]
  least : ∀ i (h : i < c.length) j, Cl l ps i j → c[i] ≤ j

theorem IsCl.unique {l : List Nd} {ps : List (Int × Int)} {c c' : List Nat} (a : IsCl l ps c) (b : IsCl l ps c') : c = c' := by
  refine List.ext_getElem (a.len.trans b.len.symm) fun i h1 h2 => ?_
  exact Nat.le_antisymm (a.least i h1 _ (b.cl i h2)) (b.least i h2 _ (a.cl i h1))

theorem IsCl.eq_iff {l : List Nd} {ps : List (Int × Int)} {c : List Nat} (a : IsCl l ps c) {i j : Nat} (hi : i < c.length) (hj : j < c.length) : c[i] = c[j] ↔ Cl l ps i j := by
  constructor
  · intro e
    exact (a.cl i hi).trans (by rw [e]; exact (a.cl j hj).symm)
  · intro h
    exact Nat.le_antisymm (a.least i hi _ (h.trans (a.cl j hj))) (a.least j hj _ (h.symm.trans (a.cl i hi)))

/-- A forest that joins no more than the closure. -/
def SoundF (l : List Nd) (ps : List (Int × Int)) (p : List Nat) : Prop := ∀ i, i < l.length → Cl l ps i (root p i)

/-- A list of names closed under pairs. -/
def PairsC (l : List Nd) (ps : List (Int × Int)) (r : Nat → Nat) : Prop := ∀ i j : Nat, ((i : Int), (j : Int)) ∈ ps → i < l.length → j < l.length → r i = r j
/-- Closed under congruence. -/
def CongC (l : List Nd) (r : Nat → Nat) : Prop := ∀ (i j : Nat) (x y : Nd), l[i]? = some x → l[j]? = some y → x.op = y.op → x.imm = y.imm → x.kids.length = y.kids.length → kidsIn l.length x.kids = true → kidsIn l.length y.kids = true →
  (∀ (t a b : Nat), x.kids[t]? = some (a : Int) → y.kids[t]? = some (b : Int) → r a = r b) → r i = r j

theorem closed_cl {l : List Nd} {ps : List (Int × Int)} {r : Nat → Nat} (h1 : PairsC l ps r) (h2 : CongC l r) {i j : Nat} (h : Cl l ps i j) : r i = r j := by
  induction h with
  | refl => rfl
  | symm _ ih => exact ih.symm
  | trans _ _ a b => exact a.trans b
  | pair a b c => exact h1 _ _ a b c
  | cong a b c d e f g _ ih => exact h2 _ _ _ _ a b c d e f g ih

theorem isCl_of {l : List Nd} {ps : List (Int × Int)} {r : Nat → Nat} (hs : ∀ i, i < l.length → Cl l ps i (r i)) (hle : ∀ i, i < l.length → r i ≤ i) (h1 : PairsC l ps r) (h2 : CongC l r) : IsCl l ps ((List.range l.length).map r) := by
  refine ⟨by simp, fun i h => ?_, fun i h j hj => ?_⟩
  · simp at h ⊢
    exact hs i h
  · simp at h ⊢
    rw [closed_cl h1 h2 hj]
    exact hle j hj.lt.2

end Go.Abs
