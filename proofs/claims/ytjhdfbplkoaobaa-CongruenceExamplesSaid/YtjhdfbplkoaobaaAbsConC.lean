/- What the loops of congruence.Classes do. -/
import Derived.Test.YtjhdfbplkoaobaaAbsCc
set_option linter.unusedVariables false
set_option linter.unusedSimpArgs false
namespace Go.Abs
open Go.Proofs.Try (prog)

theorem fill_set (n i : Nat) (h : i < n) : (List.range i ++ List.replicate (n - i) 0).set i i = List.range (i + 1) ++ List.replicate (n - (i + 1)) 0 := by
  have e : n - i = (n - (i + 1)) + 1 := by omega
  rw [e, List.replicate_succ, List.set_append]
  simp [List.range_succ]

/-- The first loop: every element is its own. -/
theorem loop22_0 {Q : AExit → (Nat → V) → Heap → Prop} {tm : Nat → V} {h : Heap} {L PS : V} {b n : Nat} (h0 : tm 0 = L) (h1 : tm 1 = PS) (h5 : tm 5 = .sl 1 b 0 n none) (h22 : tm 22 = .sl 1 b 0 n none) (h23 : tm 23 = .int .i64 (n : Nat)) (h24 : tm 24 = .int .i64 0)
    (hb : h b = some (.cells 3 1 (nats (List.replicate n 0)))) (hn : n ≤ 140737488355328)
    (post : ∀ tm' h', tm' 0 = L → tm' 1 = PS → tm' 5 = .sl 1 b 0 n none → h' = upd h b (.cells 3 1 (nats (List.range n))) → Q .normal tm' h') : W noq (AC prog) l22_0 Q tm h := by
  simp only [l22_0, W_block]
  refine W_loop' (fun m tm h1 => ∃ i, m = n - i ∧ i ≤ n ∧ tm 0 = L ∧ tm 1 = PS ∧ tm 5 = .sl 1 b 0 n none ∧ tm 22 = .sl 1 b 0 n none ∧ tm 23 = .int .i64 (n : Nat) ∧ tm 24 = .int .i64 (i : Nat) ∧ h1 = upd h b (.cells 3 1 (nats (List.range i ++ List.replicate (n - i) 0))))
    n ⟨0, rfl, by omega, h0, h1, h5, h22, h23, h24, by simp [upd_self hb]⟩ ?_
  clear h0 h1 h5 h22 h23 h24
  rintro J hJ m tm h2 ⟨i, rfl, hi, h0, h1, h5, h22, h23, h24, rfl⟩
  simp [b22_0, h23, h24]
  refine Wc_intro (fun hc => ?_) (fun hc => ?_)
  · simp at hc
    have w5 : IntKind.i64.wrap ((i : Int) + 1) = i + 1 := wrap_id (by omega) (by omega)
    simp [s22_1, h0, h1, h5, h22, h23, h24, hc, upd_at, w5]
    refine ⟨by omega, n - (i + 1), by omega, hJ _ _ _ ⟨i + 1, rfl, by omega, by simp [h0], by simp [h1], by simp [h5], by simp [h22], by simp [h23], by simp, ?_⟩⟩
    rw [upd_upd, nats_set, fill_set _ _ hc]
  · simp at hc
    have : i = n := by omega
    subst this
    exact post _ _ (by simp [h0]) (by simp [h1]) (by simp [h5]) (by simp)

def prsV (ps : List (Int × Int)) : List V := ps.map fun q => .agg [.int .i64 q.1, .int .i64 q.2]
@[simp] theorem prsV_len (ps : List (Int × Int)) : (prsV ps).length = ps.length := by simp [prsV]
@[simp] theorem prsV_get (ps : List (Int × Int)) (i : Nat) : (prsV ps)[i]? = (ps[i]?).map fun q => .agg [.int .i64 q.1, .int .i64 q.2] := by simp [prsV]

/-- A heap that holds a forest in a block of its own, and all that was there. -/
structure H22 (h h1 : Heap) (b : Nat) (p : List Nat) : Prop where
  at_b : h1 b = some (.cells 3 1 (nats p))
  keep : ∀ c x, h c = some x → h1 c = some x ∧ c ≠ b

theorem H22.new {h h1 : Heap} {b : Nat} {p : List Nat} (H : H22 h h1 b p) {b' : Nat} (hb' : h1 b' = none) (x : Blk) : H22 h (upd h1 b' x) b p ∧ b ≠ b' := by
  have n1 : b ≠ b' := by rintro rfl; rw [H.at_b] at hb'; cases hb'
  refine ⟨⟨by rw [upd_ne _ _ _ _ n1]; exact H.at_b, fun c y hc => ?_⟩, n1⟩
  obtain ⟨g1, g2⟩ := H.keep c y hc
  have : c ≠ b' := by rintro rfl; rw [hb'] at g1; cases g1
  exact ⟨by rw [upd_ne _ _ _ _ this]; exact g1, g2⟩
theorem H22.over {h h1 : Heap} {b : Nat} {p : List Nat} (H : H22 h h1 b p) (q : List Nat) : H22 h (upd h1 b (.cells 3 1 (nats q))) b q := by
  refine ⟨upd_eq _ _ _, fun c y hc => ?_⟩
  obtain ⟨g1, g2⟩ := H.keep c y hc
  exact ⟨by rw [upd_ne _ _ _ _ g2]; exact g1, g2⟩
/-- A block that was not there before is written. -/
theorem H22.else {h h1 : Heap} {b : Nat} {p : List Nat} (H : H22 h h1 b p) {b' : Nat} (hb' : h b' = none) (hne : b ≠ b') (x : Blk) : H22 h (upd h1 b' x) b p := by
  refine ⟨by rw [upd_ne _ _ _ _ hne]; exact H.at_b, fun c y hc => ?_⟩
  obtain ⟨g1, g2⟩ := H.keep c y hc
  have : c ≠ b' := by rintro rfl; rw [hb'] at hc; cases hc
  exact ⟨by rw [upd_ne _ _ _ _ this]; exact g1, g2⟩

section
variable {l : List Nd} {ps : List (Int × Int)}

/-- What a union does to a sound forest. -/
theorem sound_join {p p' : List Nat} {i j : Nat} (hs : SoundF l ps p) (hp : p.length = l.length) (hi : i < p.length) (hj : j < p.length) (hc : Cl l ps i j) (hJ : JoinF p i j p') : SoundF l ps p' := by
  intro k hk
  rw [hJ.join k (by omega)]
  split
  · rename_i e
    have hri : Cl l ps i (root p i) := hs i (by omega)
    have hrj : Cl l ps j (root p j) := hs j (by omega)
    have hrk : Cl l ps k (root p k) := hs k hk
    have hij : Cl l ps (root p i) (root p j) := hri.symm.trans (hc.trans hrj)
    rcases Nat.le_total (root p i) (root p j) with c | c
    · rw [Nat.min_eq_left c]
      rcases e with e | e
      · rw [e] at hrk; exact hrk
      · rw [e] at hrk; exact hrk.trans hij.symm
    · rw [Nat.min_eq_right c]
      rcases e with e | e
      · rw [e] at hrk; exact hrk.trans hij
      · rw [e] at hrk; exact hrk
  · exact hs k hk

theorem join_coarse {p p' : List Nat} {i j : Nat} (hJ : JoinF p i j p') {a c : Nat} (ha : a < p.length) (hc : c < p.length) (h : root p a = root p c) : root p' a = root p' c := by
  rw [hJ.join a ha, hJ.join c hc, h]

theorem join_eq {p p' : List Nat} {i j : Nat} (hJ : JoinF p i j p') (hi : i < p.length) (hj : j < p.length) : root p' i = root p' j := by
  rw [hJ.join i hi, hJ.join j hj]; simp

/-- The sum of the roots. -/
def rsum (p : List Nat) (n : Nat) : Nat := ((List.range n).map (root p)).sum

theorem sum_lt {f g : Nat → Nat} : ∀ {n : Nat}, (∀ k, k < n → f k ≤ g k) → (∃ k, k < n ∧ f k < g k) → ((List.range n).map f).sum < ((List.range n).map g).sum
  | 0, _, ⟨k, hk, _⟩ => by omega
  | n + 1, h1, ⟨k, hk, hlt⟩ => by
    rw [List.range_succ]
    simp only [List.map_append, List.sum_append, List.map_cons, List.map_nil, List.sum_cons, List.sum_nil]
    have hle : ((List.range n).map f).sum ≤ ((List.range n).map g).sum := by
      clear hk hlt
      induction n with
      | zero => simp
      | succ n ih =>
        rw [List.range_succ]
        simp only [List.map_append, List.sum_append, List.map_cons, List.map_nil, List.sum_cons, List.sum_nil]
        have := ih (fun k hk => h1 k (by omega))
        have := h1 n (by omega)
        omega
    rcases Nat.lt_or_ge k n with c | c
    · have := sum_lt (fun k hk => h1 k (by omega)) ⟨k, c, hlt⟩
      have := h1 n (by omega)
      omega
    · have : k = n := by omega
      subst this
      omega

theorem rsum_same {p p' : List Nat} (hS : SameF p p') : rsum p' p.length = rsum p p.length := by
  unfold rsum
  congr 1
  exact List.map_congr_left fun k hk => hS.same k (by simpa using hk)

theorem rsum_join {p p' : List Nat} {i j : Nat} (hJ : JoinF p i j p') (hi : i < p.length) (hj : j < p.length) (hne : root p i ≠ root p j) : rsum p' p.length < rsum p p.length := by
  refine sum_lt (fun k hk => ?_) ?_
  · rw [hJ.join k hk]; split <;> omega
  · rcases Nat.lt_or_ge (root p i) (root p j) with c | c
    · exact ⟨j, hj, by rw [hJ.join j hj]; simp; omega⟩
    · exact ⟨i, hi, by rw [hJ.join i hi]; simp; omega⟩

/-- The second loop: the pairs. -/
theorem loop22_1 {Q : AExit → (Nat → V) → Heap → Prop} {tm : Nat → V} {h h1 : Heap} {b : Nat} {p : List Nat} (h0 : tm 0 = .ps 3 (l.map Nd.v)) (h5 : tm 5 = .sl 1 b 0 l.length none) (h32 : tm 32 = .ps 2 (prsV ps)) (h33 : tm 33 = .int .i64 (ps.length : Nat)) (h34 : tm 34 = .int .i64 0)
    (H : H22 h h1 b p) (hb : h b = none) (hF : Forest p) (hp : p.length = l.length) (hs : SoundF l ps p) (hn : l.length ≤ 140737488355328) (hpn : ps.length ≤ 140737488355328)
    (post : ∀ tm' h' p', tm' 0 = .ps 3 (l.map Nd.v) → tm' 5 = .sl 1 b 0 l.length none → H22 h h' b p' → Forest p' → p'.length = l.length → SoundF l ps p' → PairsC l ps (root p') → Q .normal tm' h') : W noq (AC prog) l22_1 Q tm h1 := by
  simp only [l22_1, W_block]
  refine W_loop' (fun m tm h1 => ∃ i p, m = ps.length - i ∧ i ≤ ps.length ∧ tm 0 = .ps 3 (l.map Nd.v) ∧ tm 5 = .sl 1 b 0 l.length none ∧ tm 32 = .ps 2 (prsV ps) ∧ tm 33 = .int .i64 (ps.length : Nat) ∧ tm 34 = .int .i64 (i : Nat) ∧ H22 h h1 b p ∧ Forest p ∧ p.length = l.length ∧ SoundF l ps p ∧ PairsC l (ps.take i) (root p))
    ps.length ⟨0, p, rfl, by omega, h0, h5, h32, h33, h34, H, hF, hp, hs, fun _ _ hm => by simp at hm⟩ ?_
  clear h0 h5 h32 h33 h34 H hF hp hs p
  rintro J hJ m tm h2 ⟨i, p, rfl, hi, h0, h5, h32, h33, h34, H, hF, hp, hs, hP⟩
  simp [b22_1, h33, h34]
  refine Wc_intro (fun hc => ?_) (fun hc => ?_)
  · simp at hc
    obtain ⟨q, hq⟩ : ∃ q, ps[i]? = some q := ⟨_, List.getElem?_eq_getElem hc⟩
    have w5 : IntKind.i64.wrap ((i : Int) + 1) = i + 1 := wrap_id (by omega) (by omega)
    simp [s22_3, h32, h34, hq]
    intro b1 hb1
    have hb0 : h b1 = none := by
      cases hx : h b1 with
      | none => rfl
      | some x => rw [(H.keep _ _ hx).1] at hb1; cases hb1
    have n1 : b ≠ b1 := (H.new hb1 (.map [])).2
    simp [r22_1, upd_at, upd_upd]
    have Hn := (H.new hb1 (.cells 28 2 [.int .i64 q.1, .int .i64 q.2])).1
    by_cases ok : 0 ≤ q.1 ∧ 0 ≤ q.2 ∧ q.1 < l.length ∧ q.2 < l.length
    · obtain ⟨a, ha⟩ : ∃ a : Nat, q.1 = a := ⟨q.1.toNat, by omega⟩
      obtain ⟨c, hc'⟩ : ∃ c : Nat, q.2 = c := ⟨q.2.toNat, by omega⟩
      have ea : a < l.length := by omega
      have ec : c < l.length := by omega
      have e1 : (0 : Int) ≤ min (a : Int) c := by omega
      have e2 : max (a : Int) c < l.length := by omega
      rw [ha, hc'] at Hn
      simp [s22_4, h0, ha, hc', upd_at, e1]
      simp [r22_2, h0, upd_at, e2, k22_0, h5]
      have hcl : Cl l ps a c := .pair (by
        have : q ∈ ps := List.mem_of_getElem? hq
        rw [← ha, ← hc']; exact this) ea ec
      refine (ac57 (p := p) (i := a) (j := c) Hn.at_b hp.symm hF (by omega) (by omega)).mono ?_
      rintro v h3 ⟨rfl, p2, hJ2, rfl⟩
      have hl2 := hJ2.len
      simp [s22_5, h0, h5, h32, h33, h34, w5]
      refine ⟨ps.length - (i + 1), by omega, hJ _ _ _ ⟨i + 1, p2, rfl, by omega, by simp [h0], by simp [h5], by simp [h32], by simp [h33], by simp, Hn.over p2, hJ2.forest, by omega, sound_join hs hp (by omega) (by omega) hcl hJ2, ?_⟩⟩
      intro u v hm hu hv
      rw [List.take_add_one, hq] at hm
      simp at hm
      rcases hm with hm | hm
      · exact join_coarse hJ2 (by omega) (by omega) (hP u v hm hu hv)
      · have h1 : (u : Int) = a := by rw [← ha, ← hm]
        have h2 : (v : Int) = c := by rw [← hc', ← hm]
        have h1' : u = a := by omega
        have h2' : v = c := by omega
        subst h1'; subst h2'
        exact join_eq hJ2 (by omega) (by omega)
    · have fin : ∃ m, m < ps.length - i ∧ ∀ tm' h', tm' 0 = V.ps 3 (l.map Nd.v) → tm' 5 = V.sl 1 b 0 l.length none → tm' 32 = V.ps 2 (prsV ps) → tm' 33 = V.int .i64 (ps.length : Nat) → tm' 34 = V.int .i64 ((i + 1 : Nat) : Int) → H22 h h' b p → J m tm' h' := by
        refine ⟨ps.length - (i + 1), by omega, fun tm' h' g0 g5 g32 g33 g34 gH => hJ _ _ _ ⟨i + 1, p, rfl, by omega, g0, g5, g32, g33, g34, gH, hF, hp, hs, ?_⟩⟩
        intro u v hm hu hv
        rw [List.take_add_one, hq] at hm
        simp at hm
        rcases hm with hm | hm
        · exact hP u v hm hu hv
        · have h1 : q.1 = u := by rw [← hm]
          have h2 : q.2 = v := by rw [← hm]
          omega
      obtain ⟨m, hm, fin⟩ := fin
      by_cases e1 : (0 : Int) ≤ min q.1 q.2
      · have e2 : ¬ max q.1 q.2 < (l.length : Int) := by omega
        simp [s22_4, upd_at, e1]
        simp [r22_2, h0, upd_at, e2, s22_5, h34, w5]
        exact ⟨m, hm, fin _ _ (by simp [h0]) (by simp [h5]) (by simp [h32]) (by simp [h33]) (by simp) Hn⟩
      · simp [s22_4, upd_at, e1]
        simp [r22_2, s22_5, h34, w5]
        exact ⟨m, hm, fin _ _ (by simp [h0]) (by simp [h5]) (by simp [h32]) (by simp [h33]) (by simp) Hn⟩
  · simp at hc
    have : i = ps.length := by omega
    subst this
    refine post _ _ p (by simp [h0]) (by simp [h5]) H hF hp hs ?_
    simpa using hP

end
end Go.Abs
