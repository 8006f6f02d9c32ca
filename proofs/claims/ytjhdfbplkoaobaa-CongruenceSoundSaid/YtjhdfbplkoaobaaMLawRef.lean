/- The code of the law CongruenceReference. -/
import Derived.Test.YtjhdfbplkoaobaaMCalcC
import Derived.Test.YtjhdfbplkoaobaaProg
import Derived.KernelRfl
import Derived.Test.YtjhdfbplkoaobaaMNodes
import Derived.Test.YtjhdfbplkoaobaaMMut
import Derived.Test.YtjhdfbplkoaobaaMCongA
set_option linter.unusedVariables false
set_option linter.unusedSimpArgs false
namespace Go.Abs

/-- The rest of a region. -/
def r4_2 : CTree := (.asg 29 (.o1 (.un .not (.t 0)) (.t 28))
    .nil)

/-- The rest of a region. -/
def r4_1 : CTree := (.op (some 28) (.call 21 [(.t 0), (.t 1)]) [(.t 24), (.t 27)]
    r4_2)

/-- The rest of a region. -/
def r4_0 : CTree := (.op (some 27) (.call 23 [(.t 0), (.t 1)]) [(.t 13), (.t 1)]
    r4_1)

/-- The rest. -/
def s4_0 : ACode := (.cond (.t 29) (.seq (.cregion [12] (.asg 12 (.c (.bool false))
    .nil))
  .ret) .skip)

/-- The rest of a region. -/
def r4_6 : CTree := (.asg 39 (.o1 (.len (.t 0)) (.t 38))
    (.asg 40 (.c (.int .i64 0))
    .nil))

/-- The rest of a region. -/
def r4_5 : CTree := (.op (some 38) (.buildS 25 1 3 [.nils] [(0, (.t 0)), (1, (.t 1)), (2, (.t 2))]) [(.t 13), (.t 32), (.t 37)]
    r4_6)

/-- The rest of a region. -/
def r4_4 : CTree := (.op (some 37) (.call 25 [(.t 0), (.t 1), (.t 2)]) [(.t 34), (.t 4), (.t 5)]
    r4_5)

/-- The rest of a region. -/
def r4_3 : CTree := (.op (some 34) (.call 24 [(.t 0), (.c (.bool false))]) [(.t 2)]
    r4_4)

/-- The rest of a region. -/
def r4_7 : CTree := (.asg 16 (.t 47)
    .nil)

/-- The rest of a region. -/
def r4_10 : CTree := (.asg 55 (.o1 (.un .not (.t 0)) (.t 54))
    .nil)

/-- The rest of a region. -/
def r4_9 : CTree := (.op (some 54) (.call 21 [(.t 0), (.t 1)]) [(.t 50), (.t 53)]
    r4_10)

/-- The rest of a region. -/
def r4_8 : CTree := (.op (some 53) (.call 23 [(.t 0), (.t 1)]) [(.t 15), (.t 16)]
    r4_9)

/-- The rest. -/
def s4_5 : ACode := (.cond (.t 55) (.seq (.cregion [12] (.asg 12 (.c (.bool false))
    .nil))
  .ret) .skip)

/-- The rest. -/
def s4_4 : ACode := (.seq (.cregion [3, 38, 39, 40, 55] (.op (some 50) (.call 22 [(.t 0), (.t 1)]) [(.t 15), (.t 16)]
    r4_8))
  (.seq (.keep [3, 38, 39, 40, 55]) s4_5))

/-- The rest. -/
def s4_6 : ACode := (.cregion [3, 38, 39, 40] (.asg 40 (.o1 (.bin .add .num (.t 0) (.c (.int .i64 1))) (.t 40))
    .nil))

/-- The rest. -/
def s4_3 : ACode := (.seq (.block 1 (.seq (.cregion [3, 15, 38, 39, 40] (.asg 15 (.o1 (.load none (.t 0)) (.o2 (.idx 1 (.t 0) (.t 1)) (.t 38) (.t 40)))
    .nil))
  (.seq (.cregion [3, 15, 16, 38, 39, 40] (.op (some 47) (.call 26 [(.t 0), (.t 1)]) [(.t 3), (.o1 (.len (.t 0)) (.t 15))]
    r4_7))
  (.seq (.keep [3, 15, 16, 38, 39, 40]) s4_4))))
  (.seq (.keep [3, 38, 39, 40]) s4_6))

/-- A loop's body. -/
def b4_0 : ACode := (.seq (.cregion [3, 38, 39, 40, 41] (.asg 41 (.o2 (.bin .lss .num (.t 0) (.t 1)) (.t 40) (.t 39))
    .nil))
  (.seq (.cond (.t 41) .skip (.exit 0))
  (.seq (.keep [3, 38, 39, 40]) s4_3)))

/-- A loop. -/
def l4_0 : ACode := .block 0 (.loop (.after b4_0 [3, 38, 39, 40]))

/-- The rest. -/
def s4_2 : ACode := (.seq (.keep [3, 38, 39, 40]) l4_0)

/-- The rest of a region. -/
def r4_11 : CTree := (.asg 12 (.t 57)
    .nil)

/-- The rest. -/
def s4_7 : ACode := (.seq (.cregion [12] (.op (some 57) (.call 3 []) []
    r4_11))
  .ret)

/-- The rest. -/
def s4_1 : ACode := (.seq (.seq (.cregion [3, 38, 39, 40] (.op (some 32) (.call 24 [(.t 0), (.c (.bool false))]) [(.t 2)]
    r4_3))
  (.seq (.keep [3, 38, 39, 40]) s4_2))
  (.seq (.keep []) s4_7))

/-- The code. -/
def c4 : AFun := ⟨(.seq (.cregion [0, 1, 2, 3, 4, 5] .nil)
  (.seq (.cregion [1, 2, 3, 4, 5, 13] (.asg 13 (.o2 (.slS 3 (.t 0) none (some (.t 1)) none) (.t 0) (.o1 (.mn (.t 0) (.c (.int .i64 20))) (.o1 (.len (.t 0)) (.t 0))))
    .nil))
  (.seq (.seq (.cregion [2, 3, 4, 5, 13, 29] (.op (some 24) (.call 22 [(.t 0), (.t 1)]) [(.t 13), (.t 1)]
    r4_0))
  (.seq (.keep [2, 3, 4, 5, 13, 29]) s4_0))
  (.seq (.keep [2, 3, 4, 5, 13]) s4_1)))),
  [(.tmp 12)]⟩

theorem t4 : trFunC Go.Proofs.Try.prog (fun f => ([27, 28, 62, 64, 67, 68, 98, 125, 126, 158] : List Nat).contains f) [[0, 1, 2, 3, 4, 5], [1, 2, 3, 4, 5, 13], [2, 3, 4, 5, 13, 29], [12], [3, 38, 39, 40], [3, 38, 39, 40, 41], [3, 15, 38, 39, 40], [3, 15, 16, 38, 39, 40], [3, 38, 39, 40, 55], [12], [3, 38, 39, 40], [12]] 4 = some ⟨erase c4.code, c4.res⟩ := by kernel_rfl

end Go.Abs

/- The law CongruenceReference returns true. -/
namespace Go.Abs
open Go.Proofs.Try (prog)

/-- Classes and the reference's Classes agree. -/
theorem same_cl {h : Heap} {l : List Nd} {ps : List (Int × Int)} (hwf : ∀ x ∈ l, x.wf) (hks : ∀ x ∈ l, x.kids.length * 8 ≤ 140737488351232) (hn : l.length * 8 ≤ 140737488355328) (hp : ps.length ≤ 140737488355328) {Q : V → Heap → Prop}
    (q : ∀ c, IsCl l ps c → Q (.ps 1 (nats c)) h) : AC prog 22 [.ps 3 (l.map Nd.v), .ps 2 (prsV ps)] h Q :=
  (ac22 hwf hks hn hp).mono fun v h' ⟨c, hc, e1, e2⟩ => by subst e1; subst e2; exact q c hc

theorem same_clr {h : Heap} {l : List Nd} {ps : List (Int × Int)} (hks : ∀ x ∈ l, x.kids.length * 8 ≤ 140737488351232) (hn : l.length * 8 ≤ 140737488355328) (hp : ps.length ≤ 140737488355328) {c : List Nat} (hc : IsCl l ps c) {Q : V → Heap → Prop}
    (q : Q (.ps 1 (nats c)) h) : AC prog 23 [.ps 3 (l.map Nd.v), .ps 2 (prsV ps)] h Q :=
  (ac23 (fun x hx => by have := hks x hx; omega) hn hp).mono fun v h' ⟨c', hc', e1, e2⟩ => by subst e1; subst e2; rw [hc'.unique hc]; exact q

theorem same_ints {h : Heap} {c : List Nat} (hl : c.length ≤ 140737488355328) {Q : V → Heap → Prop} (q : Q (.bool true) h) : AC prog 21 [.ps 1 (nats c), .ps 1 (nats c)] h Q := by
  rw [nats_ints]
  exact (ac21 (by simpa using hl)).mono fun v h' ⟨e1, e2⟩ => by subst e1; subst e2; simpa using q

/-- The three lists that the law looks at. -/
def Lst4 (y : List Nd) : Prop := (∀ x ∈ y, x.wf) ∧ (∀ x ∈ y, x.kids.length * 8 ≤ 140737488351232) ∧ y.length ≤ 1000

theorem ac4 {h : Heap} {raw : List Nd} {sm : List (Int × Int)} {l m : List Int} {how at_ : Int} (hwf : ∀ x ∈ raw, x.wf) (hks : ∀ x ∈ raw, x.kids.length * 8 ≤ 140737488351232) (hn : raw.length * 8 ≤ 140737488355328) (hs : sm.length ≤ 140737488355328)
    (hl : l.length ≤ 140737488355328) (hr : ∀ a ∈ l, -9223372036854775808 ≤ a ∧ a ≤ 9223372036854775807) (hm : m.length ≤ 140737488355328) (hhow : -9223372036854775808 ≤ how ∧ how ≤ 9223372036854775807) :
    AC prog 4 [.ps 3 (raw.map Nd.v), .ps 2 (prsV sm), .ps 1 (ints l), .ps 1 (ints m), .int .i64 how, .int .i64 at_] h fun v _ => v = .bool true := by
  refine AC_c' qf1_ok mixed t4 fun R hR => ?_
  have en : (min (raw.length : Int) 20).toNat = min raw.length 20 := by omega
  have e0 : (0 : Int) ≤ min (raw.length : Int) 20 := by omega
  have e1 : min (raw.length : Int) 20 ≤ raw.length := by omega
  obtain ⟨x, hx⟩ : ∃ x, x = raw.take (min raw.length 20) := ⟨_, rfl⟩
  have hxr : ∀ y ∈ x, y ∈ raw := fun y hy => by rw [hx] at hy; exact List.mem_of_mem_take hy
  have hxl : x.length ≤ 20 := by rw [hx]; simp; omega
  have hx4 : Lst4 x := ⟨fun y hy => hwf y (hxr y hy), fun y hy => hks y (hxr y hy), by omega⟩
  simp [c4, en, e0, e1]
  rw [← List.map_take, ← hx]
  refine same_cl hx4.1 hx4.2.1 (by omega) hs fun c hc => ?_
  have hcl := hc.len
  simp [r4_0]
  refine same_clr hx4.2.1 (by omega) hs hc ?_
  simp [r4_1]
  refine same_ints (by omega) ?_
  simp [r4_2, s4_0, s4_1]
  refine (ac24 hr hl).mono ?_
  rintro v h' ⟨n1, gn1, hn1, rfl, rfl⟩
  simp [r4_3]
  refine (ac24 hr hl).mono ?_
  rintro v h' ⟨n2, gn2, hn2, rfl, rfl⟩
  simp [r4_4]
  refine (ac25 (N := 1000) (K := 1000) (by omega) (by omega) (fun y hy => by have := gn2.kids y hy; omega) (by omega) gn2.wf hhow).mono ?_
  rintro v h' ⟨n3, rfl, hn3, _, hk3, hw3, rfl⟩
  simp [r4_5]
  intro b38 hb
  simp [r4_6, s4_2, l4_0]
  have hL : ∀ y ∈ [x, n1, n3], Lst4 y := by
    intro y hy
    simp at hy
    rcases hy with rfl | rfl | rfl
    · exact hx4
    · exact ⟨gn1.wf, fun z hz => by have := gn1.kids z hz; omega, by omega⟩
    · exact ⟨hw3, fun z hz => by have := hk3 z hz; omega, hn3⟩
  obtain ⟨L, hLe⟩ : ∃ L, L = [x, n1, n3] := ⟨_, rfl⟩
  have hbe : ([V.ps 3 (x.map Nd.v), .ps 3 (n1.map Nd.v), .ps 3 (n3.map Nd.v)]) = L.map fun y => .ps 3 (y.map Nd.v) := by rw [hLe]; rfl
  rw [hbe]
  rw [← hLe] at hL
  have hLl : L.length = 3 := by rw [hLe]; rfl
  refine W_loop' (fun mm tm h1 => ∃ i : Nat, mm = 3 - i ∧ i ≤ 3 ∧ tm = mk [(3, .ps 1 (ints m)), (38, .sl 1 b38 0 3 none), (39, .int .i64 3), (40, .int .i64 (i : Nat))] ∧ h1 = upd h' b38 (.cells 25 1 (L.map fun y => .ps 3 (y.map Nd.v))))
    3 ⟨0, rfl, by omega, rfl, rfl⟩ ?_
  rintro J hJ mm _ _ ⟨i, rfl, hi, rfl, rfl⟩
  simp [b4_0]
  refine Wc_intro (fun hc => ?_) (fun hc => ?_)
  · simp at hc
    have hiL : i < L.length := by omega
    have w5 : IntKind.i64.wrap ((i : Int) + 1) = i + 1 := wrap_id (by omega) (by omega)
    obtain ⟨y, hy⟩ : ∃ y, L[i]? = some y := ⟨_, List.getElem?_eq_getElem hiL⟩
    have hy4 := hL y (List.mem_of_getElem? hy)
    have hyl := hy4.2.2
    simp [s4_3, hc, upd_at, hy]
    refine (ac26 ⟨by omega, by omega⟩ hm).mono ?_
    rintro v h2 ⟨ps, hps, _, rfl, rfl⟩
    simp [r4_7, s4_4]
    refine same_cl hy4.1 hy4.2.1 (by omega) (by omega) fun c hc => ?_
    have hcl := hc.len
    simp [r4_8]
    refine same_clr hy4.2.1 (by omega) (by omega) hc ?_
    simp [r4_9]
    refine same_ints (by omega) ?_
    simp [r4_10, s4_5, s4_6, w5]
    exact ⟨3 - (i + 1), by omega, hJ _ _ _ ⟨i + 1, rfl, by omega, by simp, rfl⟩⟩
  · simp at hc
    simp [s4_7]
    refine ac3.mono ?_
    rintro v h2 ⟨rfl, rfl⟩
    simp [r4_11]
    exact hR _ _ _ (Sub.refl _) rfl

theorem law4 {raw : List Nd} {sm : List (Int × Int)} {l m : List Int} {how at_ : Int} (h0 : okNds raw) (h1 : okPrs sm) (h2 : okInts l) (h3 : okInts m) (h4 : in64 how) (_ : in64 at_) :
    AC prog 4 [.ps 3 (raw.map Nd.v), .ps 2 (prsV sm), .ps 1 (ints l), .ps 1 (ints m), .int .i64 how, .int .i64 at_] noHeap fun v _ => v = .bool true :=
  ac4 (fun x hx => (h0.1 x hx).1) (fun x hx => (h0.1 x hx).2.1) (by have := h0.2; omega) (by have := h1.2; omega) h2.len h2.1 h3.len h4
end Go.Abs
