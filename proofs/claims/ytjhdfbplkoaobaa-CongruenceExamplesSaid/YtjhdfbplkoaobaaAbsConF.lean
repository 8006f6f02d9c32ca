/- What SameInts does; what the examples of chapter 11 come to. -/
import Derived.Test.YtjhdfbplkoaobaaAbsConE
import Derived.Test.YtjhdfbplkoaobaaAbsGive
import Derived.Test.YtjhdfbplkoaobaaAbsKodeB
set_option linter.unusedVariables false
set_option linter.unusedSimpArgs false
namespace Go.Abs
open Go.Proofs.Try (prog)

theorem nats_ints (l : List Nat) : nats l = ints (l.map fun (n : Nat) => (n : Int)) := by simp [nats, ints]

/-- SameInts. -/
theorem ac21 {h : Heap} {x y : List Int} (hx : x.length ≤ 140737488355328) : AC prog 21 [.ps 1 (ints x), .ps 1 (ints y)] h fun v h' => v = .bool (decide (x = y)) ∧ h' = h := by
  refine AC_of' noq_ok mixed t21 fun R hR => ?_
  have fin : ∀ b, (b = decide (x = y)) → R (.bool b) h := fun b hb => hR _ _ _ (Sub.refl _) ⟨by rw [hb], rfl⟩
  simp [c21]
  refine Wc_intro (fun hc => ?_) (fun hc => ?_)
  · simp at hc
    refine fin _ ?_
    have : x ≠ y := by rintro rfl; exact hc rfl
    simp [this]
  · simp at hc
    have hl : x.length = y.length := by omega
    simp [s21_0, l21_0]
    refine W_loop' (fun m tm h1 => ∃ i : Nat, m = x.length - i ∧ i ≤ x.length ∧ tm 0 = .ps 1 (ints x) ∧ tm 1 = .ps 1 (ints y) ∧ tm 5 = .int .i64 (i : Nat) ∧ h1 = h ∧ ∀ j, j < i → x[j]? = y[j]?) x.length ⟨0, rfl, by omega, by simp, by simp, by simp, rfl, fun j hj => by omega⟩ ?_
    rintro J hJ m tm h1 ⟨i, rfl, hi, h0, h1', h5, rfl, he⟩
    simp [b21_0, h0, h5]
    refine Wc_intro (fun hc2 => ?_) (fun hc2 => ?_)
    · simp at hc2
      have hiy : i < y.length := by omega
      have w5 : IntKind.i64.wrap ((i : Int) + 1) = i + 1 := wrap_id (by omega) (by omega)
      simp [s21_1, h0, h1', h5, hc2, hiy]
      refine Wc_intro (fun hc3 => ?_) (fun hc3 => ?_)
      · simp at hc3
        refine fin _ ?_
        have : x ≠ y := by rintro rfl; exact hc3 rfl
        simp [this]
      · simp at hc3
        simp [s21_2, h5, w5]
        refine ⟨x.length - (i + 1), by omega, hJ _ _ _ ⟨i + 1, rfl, by omega, by simp [h0], by simp [h1'], by simp, rfl, fun j hj => ?_⟩⟩
        rcases Nat.lt_or_ge j i with c | c
        · exact he j c
        · have : j = i := by omega
          subst this
          rw [List.getElem?_eq_getElem hc2, List.getElem?_eq_getElem hiy, hc3]
    · simp at hc2
      have : i = x.length := by omega
      subst this
      simp [s21_3]
      refine fin _ ?_
      have : x = y := by
        refine List.ext_getElem? fun j => ?_
        rcases Nat.lt_or_ge j x.length with c | c
        · exact he j c
        · rw [List.getElem?_eq_none c, List.getElem?_eq_none (by omega)]
      simp [this]

/-! ### The example -/
def exL : List Nd := [⟨2, 0, []⟩, ⟨2, 1, []⟩, ⟨20, 0, [0]⟩, ⟨20, 0, [1]⟩]

theorem ex_one : IsCl exL [(0, 1)] [0, 0, 2, 2] := by
  have key := isCl_of (l := exL) (ps := [(0, 1)]) (r := fun i => [0, 0, 2, 2].getD i 0) ?_ ?_ ?_ ?_
  · exact key
  · intro i hi
    have h01 : Cl exL [(0, 1)] 0 1 := .pair (by simp) (by decide) (by decide)
    have h23 : Cl exL [(0, 1)] 2 3 := by
      refine .cong (x := ⟨20, 0, [0]⟩) (y := ⟨20, 0, [1]⟩) rfl rfl rfl rfl rfl (by decide) (by decide) ?_
      intro t a b ha hb
      match t with
      | 0 =>
        simp at ha hb
        have ea : a = 0 := by omega
        have eb : b = 1 := by omega
        subst ea; subst eb; exact h01
      | t + 1 => simp at ha
    match i with
    | 0 => exact .refl hi
    | 1 => exact h01.symm
    | 2 => exact .refl hi
    | 3 => exact h23.symm
    | i + 4 => simp [exL] at hi; omega
  · intro i hi
    match i with
    | 0 => decide
    | 1 => decide
    | 2 => decide
    | 3 => decide
    | i + 4 => simp [exL] at hi; omega
  · intro i j hm hi hj
    simp at hm
    have ei : i = 0 := by omega
    have ej : j = 1 := by omega
    subst ei; subst ej; rfl
  · intro i j x y hx hy e1 e2 e3 kx ky hr
    have hi := (List.getElem?_eq_some_iff.1 hx).1
    have hj := (List.getElem?_eq_some_iff.1 hy).1
    simp [exL] at hi hj
    have qi : i = 0 ∨ i = 1 ∨ i = 2 ∨ i = 3 := by omega
    have qj : j = 0 ∨ j = 1 ∨ j = 2 ∨ j = 3 := by omega
    rcases qi with rfl | rfl | rfl | rfl <;> rcases qj with rfl | rfl | rfl | rfl <;> simp [exL] at hx hy <;> subst hx <;> subst hy <;> first | rfl | (simp at e1 e2 e3)

theorem ex_none : IsCl exL [] [0, 1, 2, 3] := by
  have key := isCl_of (l := exL) (ps := []) (r := fun i => i) ?_ ?_ ?_ ?_
  · exact key
  · intro i hi; exact .refl hi
  · intro i hi; exact Nat.le_refl _
  · intro i j hm hi hj; simp at hm
  · intro i j x y hx hy e1 e2 e3 kx ky hr
    have hi := (List.getElem?_eq_some_iff.1 hx).1
    have hj := (List.getElem?_eq_some_iff.1 hy).1
    simp [exL] at hi hj
    have qi : i = 0 ∨ i = 1 ∨ i = 2 ∨ i = 3 := by omega
    have qj : j = 0 ∨ j = 1 ∨ j = 2 ∨ j = 3 := by omega
    rcases qi with rfl | rfl | rfl | rfl <;> rcases qj with rfl | rfl | rfl | rfl <;> simp [exL] at hx hy <;> subst hx <;> subst hy <;> first | rfl | (simp at e1 e2 e3; done) | exact absurd (show (0 : Nat) = 1 from hr 0 0 1 rfl rfl) (by decide) | exact absurd (show (1 : Nat) = 0 from hr 0 1 0 rfl rfl) (by decide)

theorem exL_wf : ∀ x ∈ exL, x.wf := by
  intro x hx
  simp [exL] at hx
  rcases hx with rfl | rfl | rfl | rfl <;> simp [Nd.wf]
theorem exL_kids : ∀ x ∈ exL, x.kids.length * 8 ≤ 140737488351232 := by
  intro x hx
  simp [exL] at hx
  rcases hx with rfl | rfl | rfl | rfl <;> simp

/-- CongruenceExamples returns true. -/
theorem ac3 {h : Heap} : AC prog 3 [] h fun v h' => v = .bool true ∧ h' = h := by
  refine AC_of' noq_ok mixed t3 fun R hR => ?_
  simp [c3]
  intro b4 hb4
  simp [r3_0]
  intro b6 hb6
  simp [r3_1]
  intro b8 hb8
  simp [r3_2, s3_0]
  have n46 : b4 ≠ b6 := by rintro rfl; simp [upd_at] at hb6
  have n48 : b4 ≠ b8 := by rintro rfl; simp [upd_at, n46] at hb8
  have n68 : b6 ≠ b8 := by rintro rfl; simp [upd_at] at hb8
  have h6 : h b6 = none := by simpa [upd_at, Ne.symm n46] using hb6
  have h8 : h b8 = none := by simpa [upd_at, Ne.symm n48, Ne.symm n68] using hb8
  refine W_ghost _ h (Shift.frz1 1 (.ps 3 (exL.map Nd.v)) (((sub_upd hb4 _).trans (sub_upd hb6 _)).trans (sub_upd hb8 _)) ?_) ?_
  · simp
    have e : exL.map Nd.v = elems 3 4 (exL.flatMap fun n => n.v.cells) := rfl
    rw [e]
    refine Frz.whole (n := 4) (esz := 3) (ys := exL.flatMap fun n => n.v.cells) (upd_eq _ _ _) h8 ?_ rfl rfl
    refine .keep (.keep (.nils (.keep (.keep (.nils (.keep (.keep (.cons ?_ (.keep (.keep (.cons ?_ .nil)))))))))))
    · exact Frz.sl1 (e := 3) (by simp [upd_at, n46, n48, ints]) hb4 rfl (by simp [ints])
    · exact Frz.sl1 (e := 3) (by simp [upd_at, n68, ints]) h6 rfl (by simp [ints])
  simp [s3_1]
  intro b11 hb11
  simp [r3_3]
  refine AC.give (args' := [.ps 3 (exL.map Nd.v), .ps 2 (prsV [(0, 1)])]) (h' := h) (sub_upd hb11 _) rfl (FrzL.get (.keep (.cons ?_ .nil))) ?_
  · exact Frz.whole (n := 1) (esz := 2) (ys := [.int .i64 0, .int .i64 1]) (upd_eq _ _ _) hb11 (.keep (.keep .nil)) rfl rfl
  refine (ac22 exL_wf exL_kids (by simp [exL]) (by simp)).mono ?_
  rintro v h1 ⟨c, hc, rfl, rfl⟩
  obtain rfl := hc.unique ex_one
  simp [r3_4]
  intro b13 hb13
  simp [r3_5]
  refine AC.give (args' := [.ps 1 (ints [0, 0, 2, 2]), .ps 1 (ints [0, 0, 2, 2])]) (h' := h1) (sub_upd hb13 _) rfl (FrzL.get (.cons ?_ (.cons ?_ .nil))) ?_
  · exact .refl _
  · exact Frz.sl1 (upd_eq _ _ _) hb13 rfl (by simp [ints])
  refine (ac21 (by simp)).mono ?_
  rintro v h2 ⟨rfl, rfl⟩
  simp [r3_6, r3_7]
  refine AC.give (args' := [.ps 3 (exL.map Nd.v), .ps 2 (prsV [])]) (h' := h2) (Sub.refl _) rfl (FrzL.get (.keep (.nils .nil))) ?_
  refine (ac22 exL_wf exL_kids (by simp [exL]) (by simp)).mono ?_
  rintro v h3 ⟨c, hc, rfl, rfl⟩
  obtain rfl := hc.unique ex_none
  simp [r3_8]
  intro b18 hb18
  simp [r3_9]
  refine AC.give (args' := [.ps 1 (ints [0, 1, 2, 3]), .ps 1 (ints [0, 1, 2, 3])]) (h' := h3) (sub_upd hb18 _) rfl (FrzL.get (.cons ?_ (.cons ?_ .nil))) ?_
  · exact .refl _
  · exact Frz.sl1 (upd_eq _ _ _) hb18 rfl (by simp [ints])
  refine (ac21 (by simp)).mono ?_
  rintro v h4 ⟨rfl, rfl⟩
  simp [r3_10]
  exact hR _ _ _ (Sub.refl _) ⟨rfl, rfl⟩

end Go.Abs
