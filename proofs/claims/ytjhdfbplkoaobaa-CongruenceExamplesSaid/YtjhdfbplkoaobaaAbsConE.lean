/- What congruence.Classes returns: the smallest equivalent index of each node. -/
import Derived.Test.YtjhdfbplkoaobaaAbsConD
set_option linter.unusedVariables false
set_option linter.unusedSimpArgs false
namespace Go.Abs
open Go.Proofs.Try (prog)
section
variable {l : List Nd} {ps : List (Int × Int)}

/-- The passes. -/
theorem loop22_2 {Q : AExit → (Nat → V) → Heap → Prop} {tm : Nat → V} {h h1 : Heap} {b : Nat} {p : List Nat} (h0 : tm 0 = .ps 3 (l.map Nd.v)) (h5 : tm 5 = .sl 1 b 0 l.length none) (h9 : tm 9 = .bool true)
    (H : H22 h h1 b p) (hwf : ∀ x ∈ l, x.wf) (hks : ∀ x ∈ l, x.kids.length * 8 ≤ 140737488351232) (hn : l.length ≤ 140737488355328) (hF : Forest p) (hp : p.length = l.length) (hs : SoundF l ps p) (hP : PairsC l ps (root p))
    (post : ∀ tm' h' p, tm' 0 = .ps 3 (l.map Nd.v) → tm' 5 = .sl 1 b 0 l.length none → H22 h h' b p → Forest p → p.length = l.length → SoundF l ps p → PairsC l ps (root p) → CongC l (root p) → Q .normal tm' h') : W noq (AC prog) l22_2 Q tm h1 := by
  simp only [l22_2, W_block]
  refine W_loop' (fun m tm h1 => ∃ p on, m = 2 * rsum p l.length + (if on then 1 else 0) ∧ tm 0 = .ps 3 (l.map Nd.v) ∧ tm 5 = .sl 1 b 0 l.length none ∧ tm 9 = .bool on ∧ H22 h h1 b p ∧ Forest p ∧ p.length = l.length ∧ SoundF l ps p ∧ PairsC l ps (root p) ∧ (on = false → CongC l (root p)))
    _ ⟨p, true, rfl, h0, h5, h9, H, hF, hp, hs, hP, fun h => by cases h⟩ ?_
  clear h0 h5 h9 H hF hp hs hP p
  rintro J hJ m tm h2 ⟨p, on, rfl, h0, h5, h9, H, hF, hp, hs, hP, hC⟩
  simp [b22_2, h9]
  refine Wc_intro (fun hc => ?_) (fun hc => ?_)
  · subst hc
    simp [s22_7]
    intro mb hmb
    obtain ⟨H1, n1⟩ := H.new hmb (.map [])
    have hm0 : h mb = none := by
      cases hx : h mb with
      | none => rfl
      | some x => rw [(H.keep _ _ hx).1] at hmb; cases hmb
    simp [r22_3, s22_8, h0]
    refine loop22_3 (h := h) (b := b) (mb := mb) (p0 := p) (by simp [h0]) (by simp [h5]) (by simp) (by simp) (by simp) (by simp) (by simp) H1 (upd_eq _ _ _) hm0 hwf hks hn hF hp hs hP ?_
    intro tm' h' p' es on' g0 g5 g9 H' I
    simp
    refine ⟨2 * rsum p' l.length + (if on' then 1 else 0), ?_, hJ _ _ _ ⟨p', on', rfl, g0, g5, g9, H', I.forest, I.len, I.sound, I.pairs, fun ho => ?_⟩⟩
    · cases on' with
      | true => have := I.less rfl; simp; omega
      | false => have := I.le; simp; omega
    · subst ho; exact I.closed hp
  · subst hc
    exact post _ _ p (by simp [h0]) (by simp [h5]) H hF hp hs hP (hC rfl)

/-- The last loop: the roots. -/
theorem loop22_4 {Q : AExit → (Nat → V) → Heap → Prop} {tm : Nat → V} {h h1 : Heap} {b ob : Nat} {p : List Nat} (h5 : tm 5 = .sl 1 b 0 l.length none) (h17 : tm 17 = .sl 1 ob 0 l.length none) (h97 : tm 97 = .sl 1 ob 0 l.length none) (h98 : tm 98 = .int .i64 (l.length : Nat)) (h99 : tm 99 = .int .i64 0)
    (H : H22 h h1 b p) (hob : h1 ob = some (.cells 3 1 (nats (List.replicate l.length 0)))) (ho0 : h ob = none) (hbo : b ≠ ob) (hn : l.length ≤ 140737488355328) (hF : Forest p) (hp : p.length = l.length)
    (post : ∀ tm' h', tm' 17 = .sl 1 ob 0 l.length none → (∀ c x, h c = some x → h' c = some x) → h' ob = some (.cells 3 1 (nats ((List.range l.length).map (root p)))) → Q .normal tm' h') : W noq (AC prog) l22_4 Q tm h1 := by
  simp only [l22_4, W_block]
  refine W_loop' (fun m tm h1 => ∃ i q, m = l.length - i ∧ i ≤ l.length ∧ tm 5 = .sl 1 b 0 l.length none ∧ tm 17 = .sl 1 ob 0 l.length none ∧ tm 97 = .sl 1 ob 0 l.length none ∧ tm 98 = .int .i64 (l.length : Nat) ∧ tm 99 = .int .i64 (i : Nat) ∧
      H22 h h1 b q ∧ h1 ob = some (.cells 3 1 (nats ((List.range i).map (root p) ++ List.replicate (l.length - i) 0))) ∧ SameF p q)
    l.length ⟨0, p, rfl, by omega, h5, h17, h97, h98, h99, H, by simpa using hob, .refl hF⟩ ?_
  clear h5 h17 h97 h98 h99 H hob
  rintro J hJ m tm h2 ⟨i, q, rfl, hi, h5, h17, h97, h98, h99, H, hob, hS⟩
  simp [b22_4, h98, h99]
  refine Wc_intro (fun hc => ?_) (fun hc => ?_)
  · simp at hc
    have w5 : IntKind.i64.wrap ((i : Int) + 1) = i + 1 := wrap_id (by omega) (by omega)
    have hlq : q.length = l.length := hS.len.trans hp
    simp [s22_17, h99, h17, h5]
    refine (ac59 (p := q) (i := i) H.at_b hlq.symm hS.forest (by omega)).mono ?_
    rintro v h3 ⟨rfl, q2, hS2, rfl⟩
    have hob2 : (upd h2 b (.cells 3 1 (nats q2))) ob = some (.cells 3 1 (nats ((List.range i).map (root p) ++ List.replicate (l.length - i) 0))) := by
      rw [upd_ne _ _ _ _ (Ne.symm hbo)]; exact hob
    have H2 := H.over q2
    generalize upd h2 b (.cells 3 1 (nats q2)) = h4 at H2 hob2
    have hr : root q i = root p i := hS.same i (by omega)
    simp [r22_7, hc, hob2, s22_18, h99, w5, hr]
    refine ⟨by omega, l.length - (i + 1), by omega, hJ _ _ _ ⟨i + 1, q2, rfl, by omega, by simp [h5], by simp [h17], by simp [h97], by simp [h98], by simp, H2.else ho0 hbo _, ?_, hS.trans hS2⟩⟩
    rw [upd_eq, nats_set]
    congr 3
    have e : l.length - i = (l.length - (i + 1)) + 1 := by omega
    rw [e, List.replicate_succ, List.set_append]
    simp [List.range_succ]
  · simp at hc
    have : i = l.length := by omega
    subst this
    exact post _ _ (by simp [h17]) (fun c x hx => (H.keep c x hx).1) (by simpa using hob)

/-- Classes. -/
theorem ac22 {h : Heap} (hwf : ∀ x ∈ l, x.wf) (hks : ∀ x ∈ l, x.kids.length * 8 ≤ 140737488351232) (hn : l.length * 8 ≤ 140737488355328) (hpn : ps.length ≤ 140737488355328) :
    AC prog 22 [.ps 3 (l.map Nd.v), .ps 2 (prsV ps)] h fun v h' => ∃ c, IsCl l ps c ∧ v = .ps 1 (nats c) ∧ h' = h := by
  refine AC.view (Q := fun v h' => ∃ c b, IsCl l ps c ∧ v = .sl 1 b 0 c.length none ∧ h b = none ∧ h' = upd h b (.cells 3 1 (nats c))) ?_ ?_
  rotate_left
  · rintro v h1 ⟨c, b, hc, rfl, hb, rfl⟩
    refine ⟨_, _, View.ps (upd_eq _ _ _) (by simp), c, hc, ?_, ?_⟩
    · simp [elems]
      rw [List.take_of_length_le (by simp)]
    · funext k
      simp only [era, upd]
      split
      · rename_i e; subst e; exact hb.symm
      · rfl
  refine AC_of' noq_ok mixed t22 fun R hR => ?_
  simp [c22]
  refine ⟨⟨by omega, by omega⟩, ?_⟩
  intro b hb
  simp [r22_0, s22_0]
  refine loop22_0 (n := l.length) (b := b) (L := .ps 3 (l.map Nd.v)) (PS := .ps 2 (prsV ps)) (by simp) (by simp) (by simp) (by simp) (by simp) (by simp) (by simp [upd_eq, nats]) (by omega) ?_
  intro tm1 h1 g0 g1 g5 e1
  rw [upd_upd] at e1
  subst e1
  have hF : Forest (List.range l.length) := fun i hi => by simp
  have hroot : ∀ i, i < l.length → root (List.range l.length) i = i := fun i hi => root_self (by simpa using hi) (by simp)
  have H : H22 h (upd h b (.cells 3 1 (nats (List.range l.length)))) b (List.range l.length) := by
    refine ⟨upd_eq _ _ _, fun c x hc => ?_⟩
    have : c ≠ b := by rintro rfl; rw [hb] at hc; cases hc
    exact ⟨by rw [upd_ne _ _ _ _ this]; exact hc, this⟩
  simp [s22_2, g1]
  refine loop22_1 (l := l) (ps := ps) (h := h) (b := b) (p := List.range l.length) (by simp [g0]) (by simp [g5]) (by simp) (by simp) (by simp) H hb hF (by simp) (fun i hi => by rw [hroot i hi]; exact .refl hi) (by omega) hpn ?_
  intro tm2 h2 p2 g0 g5 H2 hF2 hl2 hs2 hP2
  simp [s22_6]
  refine loop22_2 (l := l) (ps := ps) (h := h) (b := b) (p := p2) (by simp [g0]) (by simp [g5]) (by simp) H2 hwf hks (by omega) hF2 hl2 hs2 hP2 ?_
  intro tm3 h3 p3 g0 g5 H3 hF3 hl3 hs3 hP3 hC3
  simp [s22_15, g0]
  refine ⟨⟨by omega, by omega⟩, ?_⟩
  intro ob hob
  obtain ⟨H4, n4⟩ := H3.new hob (.cells 3 1 (nats (List.replicate l.length 0)))
  have ho0 : h ob = none := by
    cases hx : h ob with
    | none => rfl
    | some x => rw [(H3.keep _ _ hx).1] at hob; cases hob
  simp [r22_6, s22_16]
  refine loop22_4 (l := l) (h := h) (b := b) (ob := ob) (p := p3) (by simp [g5]) (by simp) (by simp) (by simp) (by simp) (by simpa [nats] using H4) (by simp [upd_eq, nats]) ho0 n4 (by omega) hF3 hl3 ?_
  intro tm4 h4 g17 hk hob4
  simp [s22_19, g17]
  refine hR _ (upd h ob (.cells 3 1 (nats ((List.range l.length).map (root p3))))) _ ?_ ⟨(List.range l.length).map (root p3), ob, isCl_of hs3 (fun i _ => root_le p3 i) hP3 hC3, by simp, ho0, rfl⟩
  intro c x hc
  by_cases e : c = ob
  · subst e; rw [upd_eq] at hc; rw [← hc]; exact hob4
  · rw [upd_ne _ _ _ _ e] at hc; exact hk c x hc

end
end Go.Abs
