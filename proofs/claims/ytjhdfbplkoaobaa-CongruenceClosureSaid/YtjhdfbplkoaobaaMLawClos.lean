/- Plain facts: the sorts of nodes one by one; the operands of well-sorted nodes. -/
import Derived.Test.YtjhdfbplkoaobaaMNodes
import Derived.Test.YtjhdfbplkoaobaaMCalcC
import Derived.Test.YtjhdfbplkoaobaaProg
import Derived.KernelRfl
import Derived.Test.YtjhdfbplkoaobaaMLawMono
set_option linter.unusedVariables false
set_option linter.unusedSimpArgs false
namespace Go.Abs
open Classical

theorem sortsN_get (l : List Nd) {i : Nat} {n : Nd} (hn : l[i]? = some n) : ∀ {m : Nat}, i < m → (sortsN l m)[i]? = some (sortAt l (sortsN l i) i n)
  | m + 1, hm => by
    rcases Nat.lt_or_ge i m with c | c
    · simp only [sortsN]
      rw [List.getElem?_append_left (by simpa using c)]
      exact sortsN_get l hn c
    · obtain rfl : i = m := by omega
      simp only [sortsN]
      rw [List.getElem?_append_right (by simp)]
      simp [hn]

theorem sortsF_get {l : List Nd} {i : Nat} {n : Nd} (hn : l[i]? = some n) : (sortsF l)[i]? = some (sortAt l (sortsN l i) i n) :=
  sortsN_get l hn (List.getElem?_eq_some_iff.1 hn).1

theorem sortsN_take (l : List Nd) : ∀ (m i : Nat), i ≤ m → (sortsN l m).take i = sortsN l i
  | 0, i, h => by obtain rfl : i = 0 := by omega
                  rfl
  | m + 1, i, h => by
    rcases Nat.lt_or_ge m i with c | c
    · obtain rfl : i = m + 1 := by omega
      rw [List.take_of_length_le (by simp)]
    · simp only [sortsN]
      rw [List.take_append_of_le_length (by simpa using c)]
      exact sortsN_take l m i c

theorem sortAt_ne {l : List Nd} {out : List Int} {i : Nat} {n : Nd} (h : sortAt l out i n ≠ 0) : ∃ k, kidSorts out i n.kids = some k ∧ nodeSortF l n k ≠ 0 := by
  unfold sortAt at h
  cases hk : kidSorts out i n.kids with
  | none => rw [hk] at h; exact absurd rfl h
  | some k => rw [hk] at h; exact ⟨k, rfl, h⟩

theorem GoodN.sortNe {vals : Bool} {x : List Nd} (g : GoodN vals x) {i : Nat} {n : Nd} (hn : x[i]? = some n) : sortAt x (sortsN x i) i n ≠ 0 := (g.sorts i _ (sortsF_get hn)).1

theorem GoodN.kid {vals : Bool} {x : List Nd} (g : GoodN vals x) {i : Nat} {n : Nd} (hn : x[i]? = some n) : ∀ q ∈ n.kids, 0 ≤ q ∧ q < i := by
  obtain ⟨k, hk, _⟩ := sortAt_ne (g.sortNe hn)
  exact kidSorts_in hk

/-- All operands in range. -/
theorem kidsIn_all {n : Nat} {ks : List Int} (h : ∀ q ∈ ks, 0 ≤ q ∧ q < n) : kidsIn n ks = true := by
  refine kidsIn_of fun t ht => ?_
  have := h ks[t] (List.getElem_mem ht)
  exact ⟨ks[t].toNat, by rw [List.getElem?_eq_getElem ht, Int.toNat_of_nonneg this.1], by omega⟩
end Go.Abs

/- The code of the law CongruenceClosure. -/
namespace Go.Abs

/-- The rest of a region. -/
def r5_0 : CTree := (.asg 5 (.t 16)
    .nil)

/-- The rest of a region. -/
def r5_1 : CTree := (.asg 6 (.t 20)
    .nil)

/-- The rest of a region. -/
def r5_2 : CTree := (.asg 7 (.t 23)
    .nil)

/-- The rest of a region. -/
def r5_3 : CTree := (.asg 8 (.t 69)
    .nil)

/-- The rest. -/
def s5_8 : ACode := (.seq (.block 5 (.cregion [5, 6, 7, 8, 9, 10, 11, 12, 30, 31] (.asg 11 (.o2 (.bin .eql .num (.t 0) (.t 1)) (.o1 (.load none (.t 0)) (.o2 (.idx 1 (.t 0) (.t 1)) (.t 7) (.o1 (.load none (.t 0)) (.o2 (.idx 1 (.t 0) (.t 1)) (.o1 (.load none (.t 0)) (.o1 (.fld 2 (.t 0)) (.o2 (.idx 3 (.t 0) (.t 1)) (.t 5) (.t 9)))) (.t 12))))) (.o1 (.load none (.t 0)) (.o2 (.idx 1 (.t 0) (.t 1)) (.t 7) (.o1 (.load none (.t 0)) (.o2 (.idx 1 (.t 0) (.t 1)) (.o1 (.load none (.t 0)) (.o1 (.fld 2 (.t 0)) (.o2 (.idx 3 (.t 0) (.t 1)) (.t 5) (.t 10)))) (.t 12))))))
    .nil)))
  (.cregion [5, 6, 7, 8, 9, 10, 11, 12, 30, 31] (.asg 12 (.o1 (.bin .add .num (.t 0) (.c (.int .i64 1))) (.t 12))
    .nil)))

/-- A loop's body. -/
def b5_2 : ACode := (.seq (.seq (.cregion [5, 6, 7, 8, 9, 10, 11, 12, 30, 31, 124] (.asg 124 (.and (.t 11) (.o2 (.bin .lss .num (.t 0) (.t 1)) (.t 12) (.o1 (.len (.t 0)) (.o1 (.load none (.t 0)) (.o1 (.fld 2 (.t 0)) (.o2 (.idx 3 (.t 0) (.t 1)) (.t 5) (.t 9)))))))
    .nil))
  (.cond (.t 124) .skip (.exit 4)))
  (.seq (.keep [5, 6, 7, 8, 9, 10, 12, 30, 31]) s5_8))

/-- A loop. -/
def l5_2 : ACode := .block 4 (.loop (.after b5_2 [5, 6, 7, 8, 9, 10, 11, 12, 30, 31]))

/-- The rest. -/
def s5_9 : ACode := (.seq (.cregion [5, 6, 7, 8, 9, 10, 30, 31, 161] (.asg 161 (.and (.t 11) (.o2 (.bin .neq .num (.t 0) (.t 1)) (.o1 (.load none (.t 0)) (.o2 (.idx 1 (.t 0) (.t 1)) (.t 7) (.t 9))) (.o1 (.load none (.t 0)) (.o2 (.idx 1 (.t 0) (.t 1)) (.t 7) (.t 10)))))
    .nil))
  (.cond (.t 161) (.seq (.cregion [4] (.asg 4 (.c (.bool false))
    .nil))
  .ret) .skip))

/-- The rest. -/
def s5_10 : ACode := (.cregion [5, 6, 7, 8, 9, 10, 30, 31] (.asg 10 (.o1 (.bin .add .num (.t 0) (.c (.int .i64 1))) (.t 10))
    .nil))

/-- The rest. -/
def s5_7 : ACode := (.seq (.block 3 (.seq (.cregion [5, 6, 7, 8, 9, 10, 11, 30, 31] (.asg 11 (.and (.and (.o2 (.bin .eql .num (.t 0) (.t 1)) (.o1 (.load none (.t 0)) (.o1 (.fld 0 (.t 0)) (.o2 (.idx 3 (.t 0) (.t 1)) (.t 5) (.t 9)))) (.o1 (.load none (.t 0)) (.o1 (.fld 0 (.t 0)) (.o2 (.idx 3 (.t 0) (.t 1)) (.t 5) (.t 10))))) (.o2 (.bin .eql .num (.t 0) (.t 1)) (.o1 (.load none (.t 0)) (.o1 (.fld 1 (.t 0)) (.o2 (.idx 3 (.t 0) (.t 1)) (.t 5) (.t 9)))) (.o1 (.load none (.t 0)) (.o1 (.fld 1 (.t 0)) (.o2 (.idx 3 (.t 0) (.t 1)) (.t 5) (.t 10)))))) (.o2 (.bin .eql .num (.t 0) (.t 1)) (.o1 (.len (.t 0)) (.o1 (.load none (.t 0)) (.o1 (.fld 2 (.t 0)) (.o2 (.idx 3 (.t 0) (.t 1)) (.t 5) (.t 9))))) (.o1 (.len (.t 0)) (.o1 (.load none (.t 0)) (.o1 (.fld 2 (.t 0)) (.o2 (.idx 3 (.t 0) (.t 1)) (.t 5) (.t 10)))))))
    .nil))
  (.seq (.seq (.cregion [5, 6, 7, 8, 9, 10, 11, 12, 30, 31] (.asg 12 (.c (.int .i64 0))
    .nil))
  (.seq (.keep [5, 6, 7, 8, 9, 10, 11, 12, 30, 31]) l5_2))
  (.seq (.keep [5, 6, 7, 8, 9, 10, 11, 30, 31]) s5_9))))
  (.seq (.keep [5, 6, 7, 8, 9, 10, 30, 31]) s5_10))

/-- A loop's body. -/
def b5_1 : ACode := (.seq (.seq (.cregion [5, 6, 7, 8, 9, 10, 30, 31, 72] (.asg 72 (.o2 (.bin .lss .num (.t 0) (.t 1)) (.t 10) (.t 9))
    .nil))
  (.cond (.t 72) .skip (.exit 2)))
  (.seq (.keep [5, 6, 7, 8, 9, 10, 30, 31]) s5_7))

/-- A loop. -/
def l5_1 : ACode := .block 2 (.loop (.after b5_1 [5, 6, 7, 8, 9, 10, 30, 31]))

/-- The rest. -/
def s5_6 : ACode := (.seq (.cregion [5, 6, 7, 8, 9, 10, 30, 31] (.asg 10 (.c (.int .i64 0))
    .nil))
  (.seq (.keep [5, 6, 7, 8, 9, 10, 30, 31]) l5_1))

/-- The rest. -/
def s5_5 : ACode := (.seq (.cregion [5, 6, 7, 8, 9, 30, 31] (.op (some 68) (.buildSp 28 2 1 [(.int .i64 0), (.int .i64 0)] [(0, (.t 0))]) [(.o2 (.build [(.int .i64 0), (.int .i64 0)] [(0, (1, (.t 0))), (1, (1, (.t 1)))]) (.o1 (.load none (.t 0)) (.o2 (.idx 1 (.t 0) (.t 1)) (.t 7) (.t 9))) (.t 9))]
    (.op (some 69) (.app 28 2 16 (.t 0) (.t 1)) [(.t 8), (.t 68)]
    r5_3)))
  (.seq (.keep [5, 6, 7, 8, 9, 30, 31]) s5_6))

/-- The rest. -/
def s5_11 : ACode := (.cregion [5, 6, 7, 8, 30, 31] (.asg 31 (.o1 (.bin .add .num (.t 0) (.c (.int .i64 1))) (.t 31))
    .nil))

/-- The rest. -/
def s5_4 : ACode := (.seq (.block 1 (.seq (.cregion [5, 6, 7, 8, 9, 30, 31] (.asg 9 (.t 31)
    .nil))
  (.seq (.seq (.cregion [5, 6, 7, 8, 9, 30, 31, 60] (.asg 60 (.or (.or (.o1 (.bin .lss .num (.t 0) (.c (.int .i64 0))) (.o1 (.load none (.t 0)) (.o2 (.idx 1 (.t 0) (.t 1)) (.t 7) (.t 9)))) (.o2 (.bin .gtr .num (.t 0) (.t 1)) (.o1 (.load none (.t 0)) (.o2 (.idx 1 (.t 0) (.t 1)) (.t 7) (.t 9))) (.t 9))) (.o2 (.bin .neq .num (.t 0) (.t 1)) (.o1 (.load none (.t 0)) (.o2 (.idx 1 (.t 0) (.t 1)) (.t 7) (.o1 (.load none (.t 0)) (.o2 (.idx 1 (.t 0) (.t 1)) (.t 7) (.t 9))))) (.o1 (.load none (.t 0)) (.o2 (.idx 1 (.t 0) (.t 1)) (.t 7) (.t 9)))))
    .nil))
  (.cond (.t 60) (.seq (.cregion [4] (.asg 4 (.c (.bool false))
    .nil))
  .ret) .skip))
  (.seq (.keep [5, 6, 7, 8, 9, 30, 31]) s5_5))))
  (.seq (.keep [5, 6, 7, 8, 30, 31]) s5_11))

/-- A loop's body. -/
def b5_0 : ACode := (.seq (.cregion [5, 6, 7, 8, 30, 31, 32] (.asg 32 (.o2 (.bin .lss .num (.t 0) (.t 1)) (.t 31) (.t 30))
    .nil))
  (.seq (.cond (.t 32) .skip (.exit 0))
  (.seq (.keep [5, 6, 7, 8, 30, 31]) s5_4)))

/-- A loop. -/
def l5_0 : ACode := .block 0 (.loop (.after b5_0 [5, 6, 7, 8, 30, 31]))

/-- The rest of a region. -/
def r5_4 : CTree := (.op none (.store 2 (.t 0) (.t 1)) [(.t 14), (.t 168)]
    .nil)

/-- The rest. -/
def s5_14 : ACode := (.seq (.cregion [5, 7, 8, 163, 164, 165, 203] (.asg 203 (.and (.and (.and (.and (.o1 (.bin .geq .num (.t 0) (.c (.int .i64 0))) (.o1 (.load none (.t 0)) (.o1 (.idxA 2 1 (.t 0) (.c (.int .i64 0))) (.t 14)))) (.o1 (.bin .geq .num (.t 0) (.c (.int .i64 0))) (.o1 (.load none (.t 0)) (.o1 (.idxA 2 1 (.t 0) (.c (.int .i64 1))) (.t 14))))) (.o2 (.bin .lss .num (.t 0) (.t 1)) (.o1 (.load none (.t 0)) (.o1 (.idxA 2 1 (.t 0) (.c (.int .i64 0))) (.t 14))) (.o1 (.len (.t 0)) (.t 5)))) (.o2 (.bin .lss .num (.t 0) (.t 1)) (.o1 (.load none (.t 0)) (.o1 (.idxA 2 1 (.t 0) (.c (.int .i64 1))) (.t 14))) (.o1 (.len (.t 0)) (.t 5)))) (.o2 (.bin .neq .num (.t 0) (.t 1)) (.o1 (.load none (.t 0)) (.o2 (.idx 1 (.t 0) (.t 1)) (.t 7) (.o1 (.load none (.t 0)) (.o1 (.idxA 2 1 (.t 0) (.c (.int .i64 0))) (.t 14))))) (.o1 (.load none (.t 0)) (.o2 (.idx 1 (.t 0) (.t 1)) (.t 7) (.o1 (.load none (.t 0)) (.o1 (.idxA 2 1 (.t 0) (.c (.int .i64 1))) (.t 14)))))))
    .nil))
  (.cond (.t 203) (.seq (.cregion [4] (.asg 4 (.c (.bool false))
    .nil))
  .ret) .skip))

/-- The rest. -/
def s5_15 : ACode := (.cregion [5, 7, 8, 163, 164, 165] (.asg 165 (.o1 (.bin .add .num (.t 0) (.c (.int .i64 1))) (.t 165))
    .nil))

/-- The rest. -/
def s5_13 : ACode := (.seq (.block 7 (.seq (.cregion [5, 7, 8, 14, 163, 164, 165] (.asg 168 (.o1 (.load (some 2) (.t 0)) (.o2 (.idx 2 (.t 0) (.t 1)) (.t 163) (.t 165)))
    (.op (some 14) (.alloc 28 [(.int .i64 0), (.int .i64 0)]) []
    r5_4)))
  (.seq (.keep [5, 7, 8, 14, 163, 164, 165]) s5_14)))
  (.seq (.keep [5, 7, 8, 163, 164, 165]) s5_15))

/-- A loop's body. -/
def b5_3 : ACode := (.seq (.cregion [5, 7, 8, 163, 164, 165, 166] (.asg 166 (.o2 (.bin .lss .num (.t 0) (.t 1)) (.t 165) (.t 164))
    .nil))
  (.seq (.cond (.t 166) .skip (.exit 6))
  (.seq (.keep [5, 7, 8, 163, 164, 165]) s5_13)))

/-- A loop. -/
def l5_3 : ACode := .block 6 (.loop (.after b5_3 [5, 7, 8, 163, 164, 165]))

/-- The rest of a region. -/
def r5_7 : CTree := (.asg 4 (.o2 (.pick (.t 0) (.t 1) (.c (.bool false))) (.t 209) (.t 211))
    .nil)

/-- The rest of a region. -/
def r5_6 : CTree := (.opg (.t 209) true (some 211) (.call 3 []) []
    r5_7)

/-- The rest of a region. -/
def r5_5 : CTree := (.op (some 209) (.call 21 [(.t 0), (.t 1)]) [(.t 207), (.t 7)]
    r5_6)

/-- The rest. -/
def s5_16 : ACode := (.seq (.cregion [4] (.op (some 207) (.call 22 [(.t 0), (.t 1)]) [(.t 5), (.t 8)]
    r5_5))
  .ret)

/-- The rest. -/
def s5_12 : ACode := (.seq (.seq (.cregion [5, 7, 8, 163, 164, 165] (.asg 163 (.t 6)
    (.asg 164 (.o1 (.len (.t 0)) (.t 163))
    (.asg 165 (.c (.int .i64 0))
    .nil))))
  (.seq (.keep [5, 7, 8, 163, 164, 165]) l5_3))
  (.seq (.keep [5, 7, 8]) s5_16))

/-- The rest. -/
def s5_3 : ACode := (.seq (.cregion [5, 6, 7, 8] (.asg 8 (.c .nils)
    .nil))
  (.seq (.seq (.cregion [5, 6, 7, 8, 30, 31] (.asg 30 (.o1 (.len (.t 0)) (.t 7))
    (.asg 31 (.c (.int .i64 0))
    .nil)))
  (.seq (.keep [5, 6, 7, 8, 30, 31]) l5_0))
  (.seq (.keep [5, 6, 7, 8]) s5_12)))

/-- The rest. -/
def s5_2 : ACode := (.seq (.seq (.cregion [5, 6, 7, 28] (.asg 28 (.o2 (.bin .neq .num (.t 0) (.t 1)) (.o1 (.len (.t 0)) (.t 7)) (.o1 (.len (.t 0)) (.t 5)))
    .nil))
  (.cond (.t 28) (.seq (.cregion [4] (.asg 4 (.c (.bool false))
    .nil))
  .ret) .skip))
  (.seq (.keep [5, 6, 7]) s5_3))

/-- The rest. -/
def s5_1 : ACode := (.seq (.cregion [5, 6, 7] (.op (some 23) (.call 22 [(.t 0), (.t 1)]) [(.t 5), (.t 6)]
    r5_2))
  (.seq (.keep [5, 6, 7]) s5_2))

/-- The rest. -/
def s5_0 : ACode := (.seq (.cregion [5, 6] (.op (some 20) (.call 26 [(.t 0), (.t 1)]) [(.t 1), (.o1 (.len (.t 0)) (.t 5))]
    r5_1))
  (.seq (.keep [5, 6]) s5_1))

/-- The code. -/
def c5 : AFun := ⟨(.seq (.cregion [0, 1] .nil)
  (.seq (.cregion [1, 5] (.op (some 16) (.call 24 [(.t 0), (.c (.bool false))]) [(.t 0)]
    r5_0))
  (.seq (.keep [1, 5]) s5_0))),
  [(.tmp 4)]⟩

theorem t5 : trFunC Go.Proofs.Try.prog (fun f => ([27, 28, 62, 64, 67, 68, 98, 125, 126, 158, 1000068] : List Nat).contains f) [[0, 1], [1, 5], [5, 6], [5, 6, 7], [5, 6, 7, 28], [4], [5, 6, 7, 8], [5, 6, 7, 8, 30, 31], [5, 6, 7, 8, 30, 31, 32], [5, 6, 7, 8, 9, 30, 31], [5, 6, 7, 8, 9, 30, 31, 60], [4], [5, 6, 7, 8, 9, 30, 31], [5, 6, 7, 8, 9, 10, 30, 31], [5, 6, 7, 8, 9, 10, 30, 31, 72], [5, 6, 7, 8, 9, 10, 11, 30, 31], [5, 6, 7, 8, 9, 10, 11, 12, 30, 31], [5, 6, 7, 8, 9, 10, 11, 12, 30, 31, 124], [5, 6, 7, 8, 9, 10, 11, 12, 30, 31], [5, 6, 7, 8, 9, 10, 11, 12, 30, 31], [5, 6, 7, 8, 9, 10, 30, 31, 161], [4], [5, 6, 7, 8, 9, 10, 30, 31], [5, 6, 7, 8, 30, 31], [5, 7, 8, 163, 164, 165], [5, 7, 8, 163, 164, 165, 166], [5, 7, 8, 14, 163, 164, 165], [5, 7, 8, 163, 164, 165, 203], [4], [5, 7, 8, 163, 164, 165], [4]] 5 = some ⟨erase c5.code, c5.res⟩ := by kernel_rfl

end Go.Abs

/- The law CongruenceClosure returns true. -/
namespace Go.Abs
open Go.Proofs.Try (prog)

theorem Grow.frzS {e : TypeId} {esz n : Nat} {h h1 h2 : Heap} {v : V} {xs : List V} (g : Grow e esz h v h1 xs n) (hs : Sub h1 h2) (hc : xs.all V.isCell = true) : Frz h2 h v (.ps esz (elems esz n xs)) := by
  rcases g with ⟨rfl, rfl, rfl, rfl⟩ | ⟨b, hb, rfl, hl, rfl⟩
  · have : elems esz 0 ([] : List V) = [] := by simp [elems]
    rw [this]
    exact .nils esz
  · exact Frz.whole (hs _ _ (upd_eq _ _ _)) hb (FrzL.refl _) (by omega) hc

section
variable {h : Heap} {x : List Nd} {ps : List (Int × Int)} {c : List Nat}

/-- Nodes that agree so far. -/
def Same5 (x : List Nd) (c : List Nat) (i k j : Nat) : Prop := ∃ a b, x[i]? = some a ∧ x[k]? = some b ∧ a.op = b.op ∧ a.imm = b.imm ∧ a.kids.length = b.kids.length ∧ ∀ (t p q : Nat), t < j → a.kids[t]? = some (p : Int) → b.kids[t]? = some (q : Int) → c[p]? = c[q]?

theorem same5_eq {vals : Bool} (gx : GoodN vals x) (hc : IsCl x ps c) {i k j : Nat} (hi : i < c.length) (hk : k < c.length) (hs : Same5 x c i k j) (hj : ∀ a, x[i]? = some a → j = a.kids.length) : c[i] = c[k] := by
  obtain ⟨a, b, ha, hb, e1, e2, e3, h4⟩ := hs
  have hl := hc.len
  refine (hc.eq_iff hi hk).2 (.cong ha hb e1 e2 e3 (kidsIn_all fun q hq => ?_) (kidsIn_all fun q hq => ?_) fun t p q hp hq => ?_)
  · have := gx.kid ha q hq; omega
  · have := gx.kid hb q hq; omega
  · have htl := (List.getElem?_eq_some_iff.1 hp).1
    have := h4 t p q (by rw [hj a ha]; exact htl) hp hq
    have hp2 := gx.kid ha p (List.mem_of_getElem? hp)
    have hq2 := gx.kid hb q (List.mem_of_getElem? hq)
    have hpc : p < c.length := by omega
    have hqc : q < c.length := by omega
    rw [List.getElem?_eq_getElem hpc, List.getElem?_eq_getElem hqc] at this
    exact (hc.eq_iff hpc hqc).1 (by injection this)

theorem ac5 {l m : List Int} (hl : l.length ≤ 140737488355328) (hr : ∀ a ∈ l, in64 a) (hm : m.length ≤ 140737488355328) : AC prog 5 [.ps 1 (ints l), .ps 1 (ints m)] h fun v _ => v = .bool true := by
  refine AC_c' qf1_ok mixed t5 fun R hR => ?_
  simp [c5]
  refine (ac24 hr hl).mono ?_
  rintro v h' ⟨x, gx, hx, rfl, rfl⟩
  have h3 := gx.three
  have hks : ∀ y ∈ x, y.kids.length * 8 ≤ 140737488351232 := fun y hy => by have := gx.kids y hy; omega
  simp [r5_0, s5_0]
  refine (ac26 ⟨by omega, by omega⟩ hm).mono ?_
  rintro v h' ⟨ps, hps, _, rfl, rfl⟩
  simp [r5_1, s5_1]
  refine same_cl gx.wf hks (by omega) (by omega) fun c hc => ?_
  have hcl := hc.len
  have t1 : ((c.length : Int) != x.length) = false := by simp [hcl]
  simp [r5_2, s5_2, t1, s5_3, l5_0]
  refine W_loop' (fun mm tm h1 => ∃ (i : Nat) (v : V), mm = c.length - i ∧ i ≤ c.length ∧ tm = mk [(5, .ps 3 (x.map Nd.v)), (6, .ps 2 (prsV ps)), (7, .ps 1 (nats c)), (8, v), (30, .int .i64 (c.length : Nat)), (31, .int .i64 (i : Nat))] ∧ Grow 28 2 h' v h1 (((ownPairs c).take i).flatMap prC) i)
    c.length ⟨0, .nils, rfl, by omega, rfl, .nil _ _ _⟩ ?_
  rintro J hJ mm _ h1 ⟨i, v, rfl, hi, rfl, g⟩
  simp [b5_0]
  refine Wc_intro (fun hc2 => ?_) (fun hc2 => ?_)
  · simp at hc2
    have w1 : IntKind.i64.wrap ((i : Int) + 1) = (i : Int) + 1 := wrap_id (by omega) (by omega)
    have hle := hc.le hc2
    have hid := hc.idem hc2
    have hlt : c[i] < c.length := by omega
    have hxi : i < x.length := by omega
    have hno : (decide ((c[i] : Int) < 0) || decide (i < c[i])) = false := by
      simp; omega
    have hown : (ownPairs c).take (i + 1) = (ownPairs c).take i ++ [((c[i] : Int), (i : Int))] := by
      rw [List.take_add_one]
      simp [ownPairs, hc2, List.getD_eq_getElem?_getD]
    simp [s5_4, hc2, hlt, hid, hno, s5_5, elems]
    refine g.app (C := AC prog) (ys := prC (c[i], i)) (m := 1) rfl rfl rfl (by omega) (by omega) fun v' h2 g' => ?_
    have g2 : Grow 28 2 h' v' h2 (((ownPairs c).take (i + 1)).flatMap prC) (i + 1) := by
      rw [hown]
      have e3 : ((ownPairs c).take i ++ [((c[i] : Int), (i : Int))]).flatMap prC = ((ownPairs c).take i).flatMap prC ++ prC (c[i], i) := by simp
      rw [e3]; exact g'
    clear g' g
    simp [r5_3, s5_6, l5_1]
    refine W_loop' (fun mm tm h3 => ∃ (k : Nat), mm = i - k ∧ k ≤ i ∧ tm = mk [(5, .ps 3 (x.map Nd.v)), (6, .ps 2 (prsV ps)), (7, .ps 1 (nats c)), (8, v'), (9, .int .i64 (i : Nat)), (10, .int .i64 (k : Nat)), (30, .int .i64 (c.length : Nat)), (31, .int .i64 (i : Nat))] ∧ h2 = h3)
      i ⟨0, rfl, by omega, rfl, rfl⟩ ?_
    rintro J2 hJ2 mm _ _ ⟨k, rfl, hk, rfl, rfl⟩
    simp [b5_1]
    refine Wc_intro (fun hc3 => ?_) (fun hc3 => ?_)
    · simp at hc3
      have w2 : IntKind.i64.wrap ((k : Int) + 1) = (k : Int) + 1 := wrap_id (by omega) (by omega)
      have hkx : k < x.length := by omega
      have hkc : k < c.length := by omega
      obtain ⟨a, ha⟩ : ∃ a, x[i]? = some a := ⟨_, List.getElem?_eq_getElem hxi⟩
      obtain ⟨b, hb⟩ : ∃ b, x[k]? = some b := ⟨_, List.getElem?_eq_getElem hkx⟩
      have hak := gx.kids a (List.mem_of_getElem? ha)
      have hbk := gx.kids b (List.mem_of_getElem? hb)
      simp [s5_7, ha, hb, Nd.v, l5_2]
      refine W_loop' (fun mm tm h3 => ∃ (j : Nat) (same : Bool), mm = a.kids.length - j ∧ j ≤ a.kids.length ∧ tm = mk [(5, .ps 3 (x.map Nd.v)), (6, .ps 2 (prsV ps)), (7, .ps 1 (nats c)), (8, v'), (9, .int .i64 (i : Nat)), (10, .int .i64 (k : Nat)), (11, .bool same), (12, .int .i64 (j : Nat)), (30, .int .i64 (c.length : Nat)), (31, .int .i64 (i : Nat))] ∧ h2 = h3 ∧ (same = true → Same5 x c i k j))
        a.kids.length ⟨0, _, rfl, by omega, rfl, rfl, fun hs => ?_⟩ ?_
      · simp at hs
        exact ⟨a, b, ha, hb, hs.1.1, hs.1.2, by omega, fun t p q ht => by omega⟩
      rintro J3 hJ3 mm _ _ ⟨j, same, rfl, hj, rfl, rfl, hsame⟩
      simp [b5_2, ha, Nd.v]
      refine Wc_intro (fun hc4 => ?_) (fun hc4 => ?_)
      · simp at hc4
        obtain ⟨rfl, hj2⟩ := hc4
        obtain ⟨a', b', ha', hb', e1, e2, e3, h4⟩ := hsame rfl
        rw [ha] at ha'; injection ha' with ha'; subst ha'
        rw [hb] at hb'; injection hb' with hb'; subst hb'
        have hjb : j < b.kids.length := by omega
        have w3 : IntKind.i64.wrap ((j : Int) + 1) = (j : Int) + 1 := wrap_id (by omega) (by omega)
        have hka := gx.kid ha a.kids[j] (List.getElem_mem hj2)
        have hkb := gx.kid hb b.kids[j] (List.getElem_mem hjb)
        obtain ⟨p, hp⟩ : ∃ p : Nat, a.kids[j] = p := ⟨_, (Int.toNat_of_nonneg hka.1).symm⟩
        obtain ⟨q, hq⟩ : ∃ q : Nat, b.kids[j] = q := ⟨_, (Int.toNat_of_nonneg hkb.1).symm⟩
        have hpc : p < c.length := by omega
        have hqc : q < c.length := by omega
        simp [s5_8, ha, hb, Nd.v, hj2, hjb, hp, hq, hpc, hqc, w3]
        refine ⟨a.kids.length - (j + 1), by omega, hJ3 _ _ _ ⟨j + 1, _, rfl, by omega, rfl, rfl, fun hs => ?_⟩⟩
        simp at hs
        refine ⟨a, b, ha, hb, e1, e2, e3, fun t p' q' ht hp' hq' => ?_⟩
        rcases Nat.lt_or_ge t j with c1 | c1
        · exact h4 t p' q' c1 hp' hq'
        · obtain rfl : t = j := by omega
          rw [List.getElem?_eq_getElem hj2, hp] at hp'
          rw [List.getElem?_eq_getElem hjb, hq] at hq'
          have ep : p' = p := by simp at hp'; omega
          have eq : q' = q := by simp at hq'; omega
          subst ep; subst eq
          rw [List.getElem?_eq_getElem hpc, List.getElem?_eq_getElem hqc]
          first | exact congrArg _ hs | (congr 1; omega)
      · have hno2 : (same && (c[i] : Int) != c[k]) = false := by
          cases hsm : same with
          | false => rfl
          | true =>
            simp [hsm] at hc4
            obtain rfl : j = a.kids.length := by omega
            have := same5_eq gx hc hc2 hkc (hsame hsm) fun a' ha' => by rw [ha] at ha'; injection ha' with ha'; rw [ha']
            simp [this]
        simp [s5_9, hc2, hkc, hno2, s5_10, w2]
        exact ⟨i - (k + 1), by omega, hJ2 _ _ _ ⟨k + 1, rfl, by omega, by simp, rfl⟩⟩
    · simp at hc3
      simp [s5_11, w1]
      exact ⟨c.length - (i + 1), by omega, hJ _ _ _ ⟨i + 1, v', rfl, by omega, by simp, g2⟩⟩
  · simp at hc2
    obtain rfl : i = c.length := by omega
    rw [List.take_of_length_le (by simp [ownPairs])] at g
    simp [s5_12, l5_3]
    clear hJ J hc2 hi
    refine W_loop' (fun mm tm h2 => ∃ (i : Nat), mm = ps.length - i ∧ i ≤ ps.length ∧ tm = mk [(5, .ps 3 (x.map Nd.v)), (7, .ps 1 (nats c)), (8, v), (163, .ps 2 (prsV ps)), (164, .int .i64 (ps.length : Nat)), (165, .int .i64 (i : Nat))] ∧ Sub h1 h2)
      ps.length ⟨0, rfl, by omega, rfl, Sub.refl _⟩ ?_
    rintro J hJ mm _ h2 ⟨i, rfl, hi, rfl, hsub⟩
    simp [b5_3]
    refine Wc_intro (fun hc3 => ?_) (fun hc3 => ?_)
    · simp at hc3
      have w1 : IntKind.i64.wrap ((i : Int) + 1) = (i : Int) + 1 := wrap_id (by omega) (by omega)
      have hp := List.getElem?_eq_getElem hc3
      simp [s5_13, hp]
      intro b hb
      simp [r5_4, upd_eq, s5_14]
      have hnext : ∀ h4, Sub h2 h4 → ∃ mm, mm < ps.length - i ∧ J mm (mk [(5, .ps 3 (x.map Nd.v)), (7, .ps 1 (nats c)), (8, v), (163, .ps 2 (prsV ps)), (164, .int .i64 (ps.length : Nat)), (165, .int .i64 ((i : Int) + 1))]) h4 := fun h4 hs4 =>
        ⟨ps.length - (i + 1), by omega, hJ _ _ _ ⟨i + 1, rfl, by omega, by simp, hsub.trans hs4⟩⟩
      have hs4 : ∀ y z, Sub h2 (upd (upd h2 b y) b z) := fun y z => by rw [upd_upd]; exact sub_upd hb _
      by_cases hq : ((0 ≤ ps[i].1 ∧ 0 ≤ ps[i].2) ∧ ps[i].1 < x.length) ∧ ps[i].2 < x.length
      · obtain ⟨⟨⟨q1, q2⟩, q3⟩, q4⟩ := id hq
        have d : (decide (0 ≤ ps[i].fst) && decide (0 ≤ ps[i].snd) && decide (ps[i].fst < ↑x.length) && decide (ps[i].snd < ↑x.length)) = true := by simpa using hq
        obtain ⟨a, ha⟩ : ∃ a : Nat, ps[i].1 = a := ⟨_, (Int.toNat_of_nonneg q1).symm⟩
        obtain ⟨b', hb'⟩ : ∃ a : Nat, ps[i].2 = a := ⟨_, (Int.toNat_of_nonneg q2).symm⟩
        have hac : a < c.length := by omega
        have hbc : b' < c.length := by omega
        have hcl : c[a] = c[b'] := (hc.eq_iff hac hbc).2 (.pair (by rw [← ha, ← hb']; exact List.getElem_mem hc3) (by omega) (by omega))
        rw [d]
        simp [ha, hb', hac, hbc, hcl, s5_15, w1]
        exact hnext _ (hs4 _ _)
      · have d : (decide (0 ≤ ps[i].fst) && decide (0 ≤ ps[i].snd) && decide (ps[i].fst < ↑x.length) && decide (ps[i].snd < ↑x.length)) = false := by
          rw [Bool.eq_false_iff]; simpa using hq
        rw [d]
        simp [s5_15, w1]
        exact hnext _ (hs4 _ _)
    · simp [s5_16]
      have hg : Sub h' h2 := g.sub.trans hsub
      refine AC.give (args' := [.ps 3 (x.map Nd.v), .ps 2 (prsV (ownPairs c))]) (h' := h') hg rfl (FrzL.get (.keep (.cons ?_ .nil))) ?_
      · rw [← elems_prs]
        have el : (ownPairs c).length = c.length := by simp [ownPairs]
        rw [el]
        exact g.frzS hsub (prs_cell _)
      refine same_cl (ps := ownPairs c) gx.wf hks (by omega) (by simp [ownPairs]; omega) fun c2 hc2 => ?_
      rw [hc2.unique hc.own]
      simp [r5_5]
      refine same_ints (c := c) (by omega) ?_
      simp [r5_6]
      refine ac3.mono ?_
      rintro v h2 ⟨rfl, rfl⟩
      simp [r5_7]
      exact hR _ _ _ (Sub.refl _) rfl

theorem law5 {l m : List Int} (h0 : okInts l) (h1 : okInts m) : AC prog 5 [.ps 1 (ints l), .ps 1 (ints m)] noHeap fun v _ => v = .bool true := ac5 h0.len h0.1 h1.len
end
end Go.Abs
