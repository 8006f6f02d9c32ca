/- The code of the law CongruenceSound. -/
import Derived.Test.YtjhdfbplkoaobaaMCalcC
import Derived.Test.YtjhdfbplkoaobaaProg
import Derived.KernelRfl
import Derived.Test.YtjhdfbplkoaobaaMLawRef
import Derived.Test.YtjhdfbplkoaobaaMVal
set_option linter.unusedVariables false
set_option linter.unusedSimpArgs false
namespace Go.Abs

/-- The rest of a region. -/
def r7_0 : CTree := (.asg 7 (.t 16)
    .nil)

/-- The rest of a region. -/
def r7_2 : CTree := (.asg 8 (.t 20)
    .nil)

/-- The rest of a region. -/
def r7_1 : CTree := (.op (some 20) (.call 22 [(.t 0), (.t 1)]) [(.t 7), (.t 19)]
    r7_2)

/-- The rest of a region. -/
def r7_4 : CTree := (.chk (.o1 (.ext 1 (.t 0)) (.t 46))
    (.asg 11 (.o1 (.ext 0 (.t 0)) (.t 46))
    (.asg 12 (.o1 (.ext 1 (.t 0)) (.t 46))
    .nil)))

/-- The rest of a region. -/
def r7_3 : CTree := (.op (some 46) (.call 29 [(.t 0), (.t 1), (.t 2)]) [(.t 7), (.t 10), (.t 45)]
    r7_4)

/-- The rest of a region. -/
def r7_6 : CTree := (.chk (.o1 (.ext 1 (.t 0)) (.t 58))
    (.asg 13 (.o1 (.ext 0 (.t 0)) (.t 58))
    (.asg 14 (.o1 (.ext 1 (.t 0)) (.t 58))
    .nil)))

/-- The rest of a region. -/
def r7_5 : CTree := (.op (some 58) (.call 29 [(.t 0), (.t 1), (.t 2)]) [(.t 7), (.t 54), (.t 57)]
    r7_6)

/-- The rest. -/
def s7_5 : ACode := (.seq (.cregion [7, 8, 9, 36, 37, 68] (.asg 68 (.or (.o2 (.bin .neq .bool (.t 0) (.t 1)) (.t 12) (.t 14)) (.o2 (.bin .neq .num (.t 0) (.t 1)) (.t 11) (.t 13)))
    .nil))
  (.cond (.t 68) (.seq (.cregion [6] (.asg 6 (.c (.bool false))
    .nil))
  .ret) .skip))

/-- The rest. -/
def s7_4 : ACode := (.seq (.cregion [7, 8, 9, 11, 12, 13, 14, 36, 37] (.asg 54 (.o1 (.load none (.t 0)) (.o2 (.idx 1 (.t 0) (.t 1)) (.t 8) (.t 10)))
    (.op (some 57) (.buildS 2 1 2 [(.int .i64 0)] [(0, (.t 0)), (1, (.t 1))]) [(.t 9), (.t 9)]
    r7_5)))
  (.seq (.keep [7, 8, 9, 11, 12, 13, 14, 36, 37]) s7_5))

/-- The rest. -/
def s7_6 : ACode := (.cregion [7, 8, 9, 36, 37] (.asg 37 (.o1 (.bin .add .num (.t 0) (.c (.int .i64 1))) (.t 37))
    .nil))

/-- The rest. -/
def s7_3 : ACode := (.seq (.block 1 (.seq (.cregion [7, 8, 9, 10, 36, 37] (.asg 10 (.t 37)
    .nil))
  (.seq (.cregion [7, 8, 9, 10, 11, 12, 36, 37] (.op (some 45) (.buildS 2 1 2 [(.int .i64 0)] [(0, (.t 0)), (1, (.t 1))]) [(.t 9), (.t 9)]
    r7_3))
  (.seq (.keep [7, 8, 9, 10, 11, 12, 36, 37]) s7_4))))
  (.seq (.keep [7, 8, 9, 36, 37]) s7_6))

/-- A loop's body. -/
def b7_0 : ACode := (.seq (.cregion [7, 8, 9, 36, 37, 38] (.asg 38 (.o2 (.bin .lss .num (.t 0) (.t 1)) (.t 37) (.t 36))
    .nil))
  (.seq (.cond (.t 38) .skip (.exit 0))
  (.seq (.keep [7, 8, 9, 36, 37]) s7_3)))

/-- A loop. -/
def l7_0 : ACode := .block 0 (.loop (.after b7_0 [7, 8, 9, 36, 37]))

/-- The rest of a region. -/
def r7_7 : CTree := (.asg 6 (.t 70)
    .nil)

/-- The rest. -/
def s7_7 : ACode := (.seq (.cregion [6] (.op (some 70) (.call 3 []) []
    r7_7))
  .ret)

/-- The rest. -/
def s7_2 : ACode := (.seq (.cregion [7, 8, 9] (.asg 9 (.o2 (.qcall 28 [(.t 0), (.t 1)]) (.t 1) (.t 2))
    .nil))
  (.seq (.seq (.cregion [7, 8, 9, 36, 37] (.asg 36 (.o1 (.len (.t 0)) (.t 7))
    (.asg 37 (.c (.int .i64 0))
    .nil)))
  (.seq (.keep [7, 8, 9, 36, 37]) l7_0))
  (.seq (.keep []) s7_7)))

/-- The rest. -/
def s7_1 : ACode := (.seq (.seq (.cregion [1, 2, 7, 8, 31] (.asg 31 (.or (.o2 (.bin .neq .num (.t 0) (.t 1)) (.o1 (.len (.t 0)) (.t 8)) (.o1 (.len (.t 0)) (.t 7))) (.o1 (.bin .neq .num (.t 0) (.c (.int .i64 0))) (.o1 (.load none (.t 0)) (.o1 (.idx 1 (.t 0) (.c (.int .i64 1))) (.t 8)))))
    .nil))
  (.cond (.t 31) (.seq (.cregion [6] (.asg 6 (.c (.bool false))
    .nil))
  .ret) .skip))
  (.seq (.keep [1, 2, 7, 8]) s7_2))

/-- The rest. -/
def s7_0 : ACode := (.seq (.cregion [1, 2, 7, 8] (.op (some 19) (.buildS 28 2 1 [(.int .i64 0), (.int .i64 0)] [(0, (.t 0))]) [(.o0 (.build [(.int .i64 0), (.int .i64 0)] [(0, (1, (.c (.int .i64 0)))), (1, (1, (.c (.int .i64 1))))]))]
    r7_1))
  (.seq (.keep [1, 2, 7, 8]) s7_1))

/-- The code. -/
def c7 : AFun := ⟨(.seq (.cregion [0, 1, 2] .nil)
  (.seq (.cregion [1, 2, 7] (.op (some 16) (.call 24 [(.t 0), (.c (.bool true))]) [(.t 0)]
    r7_0))
  (.seq (.keep [1, 2, 7]) s7_0))),
  [(.tmp 6)]⟩

theorem t7 : trFunC Go.Proofs.Try.prog (fun f => ([27, 28, 62, 64, 67, 68, 98, 125, 126, 158] : List Nat).contains f) [[0, 1, 2], [1, 2, 7], [1, 2, 7, 8], [1, 2, 7, 8, 31], [6], [7, 8, 9], [7, 8, 9, 36, 37], [7, 8, 9, 36, 37, 38], [7, 8, 9, 10, 36, 37], [7, 8, 9, 10, 11, 12, 36, 37], [7, 8, 9, 11, 12, 13, 14, 36, 37], [7, 8, 9, 36, 37, 68], [6], [7, 8, 9, 36, 37], [6]] 7 = some ⟨erase c7.code, c7.res⟩ := by kernel_rfl

end Go.Abs

/- The law CongruenceSound returns true. -/
namespace Go.Abs
open Go.Proofs.Try (prog)
open Classical

/-- What seeds' nodes of values are made of. -/
theorem good_val {x : List Nd} (g : GoodN true x) {i : Nat} {n : Nd} (hn : x[i]? = some n) (hi : i ≠ 2) : (n.op = 1 ∨ (n.op = 2 ∧ (n.imm = 0 ∨ n.imm = 1)) ∨ (4 ≤ n.op ∧ n.op ≤ 22)) := by
  rcases g.ops n (List.mem_of_getElem? hn) with (h | h | h) | h
  · subst h; simp
  · subst h; simp
  · exfalso
    have h2 := g.n2
    have hi' := (List.getElem?_eq_some_iff.1 hn).1
    have h2' := (List.getElem?_eq_some_iff.1 h2).1
    have := List.pairwise_iff_getElem.1 g.nodup
    rcases Nat.lt_trichotomy i 2 with c | c | c
    · refine this i 2 hi' h2' c ?_
      have e1 := (List.getElem?_eq_some_iff.1 hn).2
      have e2 := (List.getElem?_eq_some_iff.1 h2).2
      rw [e1, e2, h]
    · exact hi c
    · refine this 2 i h2' hi' c ?_
      have e1 := (List.getElem?_eq_some_iff.1 hn).2
      have e2 := (List.getElem?_eq_some_iff.1 h2).2
      rw [e1, e2, h]
  · rcases h with ⟨h, _⟩ | ⟨h1, h2, _⟩ | ⟨h, _⟩ | ⟨h, _⟩ | ⟨h, _⟩
    · exact .inl h
    · exact .inr (.inr ⟨h1, h2⟩)
    all_goals cases h

theorem good_ws {vals : Bool} {x : List Nd} (g : GoodN vals x) {i : Nat} (hi : i < x.length) : WS x i := ws_of (List.getElem?_eq_getElem hi) (g.sortNe (List.getElem?_eq_getElem hi))

theorem good_sort {vals : Bool} {x : List Nd} (g : GoodN vals x) {i : Nat} (hi : i < x.length) : sortF x i = sortAt x (sortsN x i) i x[i] := by
  rw [sortF_nat hi, List.getD_eq_getElem?_getD, sortsF_get (List.getElem?_eq_getElem hi)]; rfl

theorem good_sort1 {x : List Nd} (g : GoodN true x) {i : Nat} (hi : i < x.length) (h2 : i ≠ 2) : sortF x i = 1 := by
  rw [good_sort g hi]
  exact (g.sorts i _ (sortsF_get (List.getElem?_eq_getElem hi))).2 rfl h2

theorem good_sort2 {vals : Bool} {x : List Nd} (g : GoodN vals x) : sortF x (2 : Nat) = 2 := by
  have h2 := (List.getElem?_eq_some_iff.1 g.n2).1
  rw [sortF_nat h2, List.getD_eq_getElem?_getD, g.s2]; rfl

/-- No value uses the state. -/
theorem good_kid2 {x : List Nd} (g : GoodN true x) {i : Nat} {n : Nd} (hn : x[i]? = some n) (hi : i ≠ 2) : (2 : Int) ∉ n.kids := by
  intro hm
  have hil := (List.getElem?_eq_some_iff.1 hn).1
  have hs := good_sort1 g hil hi
  rw [good_sort g hil] at hs
  have he : x[i] = n := (List.getElem?_eq_some_iff.1 hn).2
  rw [he] at hs
  obtain ⟨k, hk, hns⟩ := sortAt_ne (l := x) (out := sortsN x i) (i := i) (n := n) (by rw [hs]; simp)
  have hkid := g.kid hn 2 hm
  -- the sort of that operand is 2
  obtain ⟨p, hp⟩ := List.getElem?_of_mem hm
  have hkp : k[p]? = some 2 := by
    have key : ∀ {ks k : List Int} {p : Nat}, kidSorts (sortsN x i) i ks = some k → ks[p]? = some 2 → k[p]? = some ((sortsN x i).getD 2 0) := by
      intro ks
      induction ks with
      | nil => intro k p _ h; simp at h
      | cons a ks ih =>
        intro k p h1 h2
        simp only [kidSorts] at h1
        split at h1
        · cases h1
        · simp only [Option.map_eq_some_iff] at h1
          obtain ⟨r, h3, rfl⟩ := h1
          cases p with
          | zero => simp at h2; subst h2; rfl
          | succ p =>
            rw [List.getElem?_cons_succ]
            exact ih h3 (by simpa using h2)
    rw [key hk hp]
    have h2 := (List.getElem?_eq_some_iff.1 g.n2).1
    have e : sortsN x i = (sortsF x).take i := (sortsN_take x x.length i (by omega)).symm
    rw [e, List.getD_eq_getElem?_getD, List.getElem?_take_of_lt (by omega), g.s2]; rfl
  have hval : sortAt x (sortsN x i) i n = nodeSortF x n k := by unfold sortAt; rw [hk]
  rw [hval] at hs
  have hmem : (2 : Int) ∈ k := List.mem_of_getElem? hkp
  have hnall : all1 k = false := by
    rw [Bool.eq_false_iff]
    intro h
    have := List.all_eq_true.1 h 2 hmem
    simp at this
  obtain ⟨k22, _, _, _⟩ := ws_kids (good_ws g hil) hn
  have hkl := kidSorts_len hk
  obtain ⟨ha1, ha2, ha3⟩ := ws_shape (good_ws g hil) hn
  have hpos : 0 < n.kids.length := List.length_pos_of_mem hm
  have hshape : ¬ ((arity n.op).2 = false ∨ (0 ≤ (arity n.op).1 ∧ (n.kids.length : Int) ≠ (arity n.op).1) ∨ validImm n.op n.imm = false) := by
    rintro (h | ⟨h, h'⟩ | h)
    · rw [ha1] at h; cases h
    · exact h' (ha2 h)
    · rw [ha3] at h; cases h
  rcases good_val g hn hi with e | ⟨e, _⟩ | ⟨e1, e2⟩
  · simp [e, arity] at ha2; rw [ha2] at hpos; simp at hpos
  · simp [e, arity] at ha2; rw [ha2] at hpos; simp at hpos
  · by_cases e : n.op = 22
    · have hl3 := k22 e
      obtain ⟨a, b, c, rfl⟩ := len3 (show k.length = 3 by omega)
      unfold nodeSortF at hs
      rw [if_neg hshape] at hs
      have hs' : (if a ≠ 1 ∨ b ≠ c ∨ b = 3 then (0 : Int) else b) = 1 := by simpa [e, k0, k1, k2] using hs
      simp at hmem
      split at hs'
      · cases hs'
      · omega
    · unfold nodeSortF at hs
      rw [if_neg hshape, if_neg (by omega), if_neg (by omega), if_neg e, if_neg (by omega), if_neg (by omega), if_neg (by omega), if_neg (by omega), if_neg (by omega), if_neg (by omega), if_neg (by omega), hnall] at hs
      simp at hs

theorem good_dep {x : List Nd} (g : GoodN true x) {i j : Nat} (hi : i ≠ 2) (h : Dep x i j) : j ≠ 2 := by
  induction h with
  | refl => exact hi
  | kid _ hn hq ih =>
    rintro rfl
    exact good_kid2 g hn ih hq

section
variable {x : List Nd} {w : Int}

theorem good_has (g : GoodN true x) {i : Nat} (hi : i < x.length) (h2 : i ≠ 2) : HasV x [w, w] i := by
  have hn := List.getElem?_eq_getElem hi
  refine ⟨x[i], hn, ?_⟩
  obtain ⟨_, _, _, kp⟩ := ws_kids (good_ws g hi) hn
  unfold stepV
  rcases good_val g hn h2 with e | ⟨e, e'⟩ | ⟨e1, e2⟩
  · rw [if_pos e]; rfl
  · rw [if_neg (by omega), if_pos ⟨e, by simp; omega⟩]; rfl
  · rw [if_neg (by omega), if_neg (by omega)]
    repeat' split
    all_goals first | rfl | (exfalso; omega)

theorem value_good (g : GoodN true x) {i : Nat} (hi : i < x.length) (h2 : i ≠ 2) : valueF x [w, w] i = ((valsN x [w, w] x.length).getD i 0, true) := by
  rw [valueF, if_pos, Int.toNat_natCast]
  refine ⟨good_sort1 g hi h2, fun j hd => ?_⟩
  rw [Int.toNat_natCast] at hd
  have hj := (hd.ws (good_ws g hi)).2
  exact good_has g (by omega) (good_dep g h2 hd)
theorem value_state {vals : Bool} (g : GoodN vals x) : valueF x [w, w] (2 : Nat) = (0, false) := by
  rw [valueF, if_neg]
  rintro ⟨h, _⟩
  rw [good_sort2 g] at h
  cases h

theorem value_step (g : GoodN true x) {i : Nat} (hi : i < x.length) (h2 : i ≠ 2) : (valsN x [w, w] x.length).getD i 0 = (stepV [w, w] (valsN x [w, w] x.length) x[i]).getD 0 := by
  have hn := List.getElem?_eq_getElem hi
  rw [List.getD_eq_getElem?_getD, valsN_get x [w, w] hn hi, Option.getD_some]
  congr 1
  obtain ⟨k22, k1, k2, kp⟩ := ws_kids (good_ws g hi) hn
  refine stepV_congr (fun q hq => ?_) fun t ht => by omega
  have := g.kid hn q hq
  exact valsN_getD (by omega) (by omega)

theorem value_cl (g : GoodN true x) {i j : Nat} (h : Cl x [(0, 1)] i j) : valueF x [w, w] i = valueF x [w, w] j := by
  induction h with
  | refl => rfl
  | symm _ ih => exact ih.symm
  | trans _ _ a b => exact a.trans b
  | pair hm hi hj =>
    simp at hm
    obtain ⟨h1, h2⟩ := hm
    subst h1
    obtain rfl : _ = 1 := Int.ofNat.inj h2
    have a0 := (List.getElem?_eq_some_iff.1 g.n0).2
    have a1 := (List.getElem?_eq_some_iff.1 g.n1).2
    rw [value_good g hi (by omega), value_good g hj (by omega), value_step g hi (by omega), value_step g hj (by omega), a0, a1]
    simp [stepV]
  | @cong i j a b ha hb e1 e2 e3 _ _ hr ih =>
    have hi := (List.getElem?_eq_some_iff.1 ha).1
    have hj := (List.getElem?_eq_some_iff.1 hb).1
    have ea := (List.getElem?_eq_some_iff.1 ha).2
    have eb := (List.getElem?_eq_some_iff.1 hb).2
    by_cases c : i = 2
    · subst c
      rw [g.n2] at ha; injection ha with ha; subst ha
      have : j = 2 := by
        by_cases c : j = 2
        · exact c
        · have := good_val g hb c
          simp at e1
          omega
      subst this; rfl
    · by_cases c' : j = 2
      · subst c'
        rw [g.n2] at hb; injection hb with hb; subst hb
        have := good_val g ha c
        simp at e1
        omega
      · rw [value_good g hi c, value_good g hj c', value_step g hi c, value_step g hj c', ea, eb]
        congr 2
        -- the operands have the same values
        have hk : ∀ t : Nat, t < a.kids.length → (valsN x [w, w] x.length).getD (a.kids.getD t 0).toNat 0 = (valsN x [w, w] x.length).getD (b.kids.getD t 0).toNat 0 := by
          intro t ht
          have htb : t < b.kids.length := by omega
          have hka := g.kid ha _ (List.getElem_mem ht)
          have hkb := g.kid hb _ (List.getElem_mem htb)
          obtain ⟨p, hp⟩ : ∃ p : Nat, a.kids[t] = p := ⟨_, (Int.toNat_of_nonneg hka.1).symm⟩
          obtain ⟨q, hq⟩ : ∃ q : Nat, b.kids[t] = q := ⟨_, (Int.toNat_of_nonneg hkb.1).symm⟩
          have hv := ih t p q (by rw [List.getElem?_eq_getElem ht, hp]) (by rw [List.getElem?_eq_getElem htb, hq])
          have hp2 : p ≠ 2 := fun h => good_kid2 g ha c (by rw [h] at hp; rw [show (2 : Int) = a.kids[t] by rw [hp]; rfl]; exact List.getElem_mem ht)
          have hq2 : q ≠ 2 := fun h => good_kid2 g hb c' (by rw [h] at hq; rw [show (2 : Int) = b.kids[t] by rw [hq]; rfl]; exact List.getElem_mem htb)
          rw [value_good g (by omega) hp2, value_good g (by omega) hq2] at hv
          injection hv with hv
          have gp : (a.kids.getD t 0).toNat = p := by rw [List.getD_eq_getElem?_getD, List.getElem?_eq_getElem ht, Option.getD_some, hp, Int.toNat_natCast]
          have gq : (b.kids.getD t 0).toNat = q := by rw [List.getD_eq_getElem?_getD, List.getElem?_eq_getElem htb, Option.getD_some, hq, Int.toNat_natCast]
          rw [gp, gq]
          exact hv
        obtain ⟨k22, k1, k2, _⟩ := ws_kids (good_ws g hi) ha
        unfold stepV
        rw [← e1, ← e2]
        by_cases q1 : a.op = 1
        · simp only [if_pos q1]
        by_cases q2 : a.op = 2 ∧ a.imm < ([w, w].length : Nat)
        · simp only [if_neg q1, if_pos q2]
        by_cases q3 : 4 ≤ a.op ∧ a.op ≤ 19
        · have := k2 q3
          simp only [if_neg q1, if_neg q2, if_pos q3, hk 0 (by omega), hk 1 (by omega)]
        by_cases q4 : a.op = 20 ∨ a.op = 21
        · have := k1 q4
          simp only [if_neg q1, if_neg q2, if_neg q3, if_pos q4, hk 0 (by omega)]
        by_cases q5 : a.op = 22
        · have := k22 q5
          simp only [if_neg q1, if_neg q2, if_neg q3, if_neg q4, if_pos q5, hk 0 (by omega), hk 1 (by omega), hk 2 (by omega)]
        · simp only [if_neg q1, if_neg q2, if_neg q3, if_neg q4, if_neg q5]
end

section
variable {h : Heap}
theorem ac7 {l : List Int} {a w : Int} (hl : l.length ≤ 140737488355328) (hr : ∀ a ∈ l, in64 a) : AC prog 7 [.ps 1 (ints l), .int .i64 a, .int .i64 w] h fun v _ => v = .bool true := by
  refine AC_c' qf1_ok mixed t7 fun R hR => ?_
  simp [c7]
  refine (ac24 hr hl).mono ?_
  rintro v h' ⟨x, gx, hx, rfl, rfl⟩
  have h3 := gx.three
  have hks : ∀ y ∈ x, y.kids.length * 8 ≤ 140737488351232 := fun y hy => by have := gx.kids y hy; omega
  have hks2 : ∀ y ∈ x, y.kids.length * 8 ≤ 140737488355328 := fun y hy => by have := gx.kids y hy; omega
  simp [r7_0, s7_0]
  intro b19 hb19
  simp [r7_1]
  refine AC.give (args' := [.ps 3 (x.map Nd.v), .ps 2 (prsV [(0, 1)])]) (h' := h') (sub_upd hb19 _) rfl (FrzL.get (.keep (.cons ?_ .nil))) ?_
  · exact Frz.whole (n := 1) (esz := 2) (ys := [.int .i64 0, .int .i64 1]) (upd_eq _ _ _) hb19 (.keep (.keep .nil)) rfl rfl
  refine same_cl gx.wf hks (by omega) (by simp) fun c hc => ?_
  have hcl := hc.len
  have h1c : 1 < c.length := by omega
  have hc1 : c[1] = 0 := by
    have := hc.least 1 h1c 0 (Cl.pair (i := 0) (j := 1) (by simp) (by omega) (by omega)).symm
    omega
  have t1 : ((c.length : Int) != x.length) = false := by simp [hcl]
  simp [r7_2, s7_1, t1, h1c, hc1, s7_2, l7_0]
  obtain ⟨n, hn⟩ : ∃ n, n = wordF a w := ⟨_, rfl⟩
  rw [← hn]
  refine W_loop' (fun mm tm h2 => ∃ (i : Nat), mm = x.length - i ∧ i ≤ x.length ∧ tm = mk [(7, .ps 3 (x.map Nd.v)), (8, .ps 1 (nats c)), (9, .int .i64 n), (36, .int .i64 (x.length : Nat)), (37, .int .i64 (i : Nat))] ∧ Sub h' h2)
    x.length ⟨0, rfl, by omega, rfl, Sub.refl _⟩ ?_
  rintro J hJ mm _ h2 ⟨i, rfl, hi, rfl, hsub⟩
  simp [b7_0]
  refine Wc_intro (fun hc3 => ?_) (fun hc3 => ?_)
  · simp at hc3
    have w1 : IntKind.i64.wrap ((i : Int) + 1) = (i : Int) + 1 := wrap_id (by omega) (by omega)
    have hic : i < c.length := by omega
    simp [s7_3]
    intro b45 hb45
    have e2 : ([V.int .i64 n, V.int .i64 n]) = ints [n, n] := rfl
    rw [e2]
    simp [r7_3]
    refine AC.give (args' := [.ps 3 (x.map Nd.v), .int .i64 (i : Nat), .ps 1 (ints [n, n])]) (h' := h2) (sub_upd hb45 _) rfl (FrzL.get (.keep (.keep (.cons ?_ .nil)))) ?_
    · exact Frz.sl1 (upd_eq _ _ _) hb45 rfl (by simp [ints])
    refine (ac29 (by omega) hks2 (by simp)).mono ?_
    rintro v h4 ⟨rfl, rfl⟩
    simp [r7_4, s7_4, hic]
    intro b57 hb57
    rw [e2]
    simp [r7_5]
    refine AC.give (args' := [.ps 3 (x.map Nd.v), .int .i64 (c[i] : Nat), .ps 1 (ints [n, n])]) (h' := h4) (sub_upd hb57 _) rfl (FrzL.get (.keep (.keep (.cons ?_ .nil)))) ?_
    · exact Frz.sl1 (upd_eq _ _ _) hb57 rfl (by simp [ints])
    refine (ac29 (by omega) hks2 (by simp)).mono ?_
    rintro v h5 ⟨rfl, rfl⟩
    have hv := value_cl (w := n) gx (hc.cl i hic)
    rw [hv]
    simp [r7_6, s7_5, s7_6, w1]
    exact ⟨x.length - (i + 1), by omega, hJ _ _ _ ⟨i + 1, rfl, by omega, by simp, hsub⟩⟩
  · simp [s7_7]
    refine ac3.mono ?_
    rintro v h4 ⟨rfl, rfl⟩
    simp [r7_7]
    exact hR _ _ _ (Sub.refl _) rfl

theorem law7 {l : List Int} {a w : Int} (h0 : okInts l) (_ : in64 a) (_ : in64 w) : AC prog 7 [.ps 1 (ints l), .int .i64 a, .int .i64 w] noHeap fun v _ => v = .bool true := ac7 h0.len h0.1
end
end Go.Abs
