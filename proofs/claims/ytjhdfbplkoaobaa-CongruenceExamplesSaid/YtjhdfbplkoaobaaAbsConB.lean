/- What appendUint64 and key of package congruence do. -/
import Derived.Test.YtjhdfbplkoaobaaAbsConA
set_option linter.unusedVariables false
set_option linter.unusedSimpArgs false
namespace Go.Abs
open Go.Proofs.Try (prog)

theorem wrap_u64 {x : Int} (h1 : 0 ≤ x) (h2 : x < 18446744073709551616) : IntKind.u64.wrap x = x := by
  simp only [IntKind.wrap, IntKind.signed, IntKind.bits]
  simp
  omega

/-- The i-th byte of a number. -/
def byte8 (n : Int) (i : Nat) : Int := IntKind.u8.wrap (n.fdiv (2 ^ (8 * i)))
def bytes8 (n : Int) (k : Nat) : List V := (List.range k).map fun i => .int .u8 (byte8 n i)

/-- The heap without a slice's block. -/
def eraS (h : Heap) : V → Heap
  | .sl _ b _ _ _ => era h b
  | _ => h

/-- A slice that grows: nil, or a block of its own. -/
def Buf (e : TypeId) (esz : Nat) (h : Heap) (s : V) (xs : List V) (n : Nat) : Prop :=
  (s = .nils ∧ xs = [] ∧ n = 0) ∨ ∃ b, s = .sl esz b 0 n none ∧ h b = some (.cells e esz xs) ∧ xs.length = n * esz

/-- A step of a slice that grows. -/
theorem wApp_buf {e : TypeId} {esz bytes : Nat} {s x : V} {h : Heap} {xs ys : List V} {n m : Nat} {K : V → Heap → Prop} (hb : Buf e esz h s xs n) (hx : cellsOf h esz x = some (ys, m)) (hc : ys.all V.isCell = true) (hy : ys.length = m * esz) (hm : 0 < m)
    (h1 : (n + m) * bytes ≤ 140737488355328) (h2 : n + m ≤ 140737488355328)
    (hK : ∀ b' h', (∀ c, eraS h s c ≠ none → c ≠ b') → Sub (eraS h s) (era h' b') → h' b' = some (.cells e esz (xs ++ ys)) → (xs ++ ys).length = (n + m) * esz → h' = upd (eraS h s) b' (.cells e esz (xs ++ ys)) → K (.sl esz b' 0 (n + m) none) h') : wApp e esz bytes s x h K := by
  rcases hb with ⟨rfl, rfl, rfl⟩ | ⟨b, rfl, hb, hl⟩
  · rw [wApp_nils hx]
    refine ⟨hc, ?_⟩
    rw [if_neg (by omega)]
    refine ⟨by simpa using h1, by simpa using h2, fun b' hb' => ?_⟩
    have := hK b' (upd h b' (.cells e esz ys)) (fun c hc e => hc (by subst e; exact hb')) (fun c x hx => ?_) (by simp [upd_eq]) (by simpa using hy) rfl
    · simpa using this
    · have : c ≠ b' := by rintro rfl; simp [eraS, hb'] at hx
      rw [era_ne _ _ _ this, upd_ne _ _ _ _ this]; exact hx
  · rw [wApp_tip hx hb]
    refine ⟨hc, ⟨h1, h2⟩, hl, fun b' hb' => ?_⟩
    have sub : ∀ c, eraS h (.sl esz b 0 n none) c ≠ none → c ≠ b' := by
      intro c hc e
      subst e
      refine hc ?_
      show era h b c = none
      unfold era
      split
      · rfl
      · exact hb'
    refine hK b' _ sub (fun c x hx => ?_) (by simp [upd_eq]) (by simp [hl, hy, Nat.add_mul]) rfl
    have : c ≠ b' := sub c (by rw [hx]; simp)
    rw [era_ne _ _ _ this, upd_ne _ _ _ _ this]; exact hx

/-- A fresh block leaves it. -/
theorem Buf.new {e : TypeId} {esz : Nat} {h : Heap} {s : V} {xs : List V} {n : Nat} (hb : Buf e esz h s xs n) {b' : Nat} (hb' : h b' = none) (x : Blk) : Buf e esz (upd h b' x) s xs n ∧ Sub (eraS h s) (eraS (upd h b' x) s) := by
  rcases hb with ⟨rfl, rfl, rfl⟩ | ⟨b, rfl, hb, hl⟩
  · exact ⟨.inl ⟨rfl, rfl, rfl⟩, sub_upd hb' x⟩
  · have hne : b ≠ b' := by rintro rfl; rw [hb] at hb'; cases hb'
    refine ⟨.inr ⟨b, rfl, by rw [upd_ne _ _ _ _ hne]; exact hb, hl⟩, fun c y hc => ?_⟩
    simp only [eraS] at hc ⊢
    unfold era at hc ⊢
    split at hc
    · cases hc
    · rename_i h1
      rw [if_neg h1]
      exact sub_upd hb' x _ _ hc

theorem Sub.trans {h h' h'' : Heap} (a : Sub h h') (b : Sub h' h'') : Sub h h'' := fun c x hx => b c x (a c x hx)

theorem bytes8_succ (u : Int) (i : Nat) : bytes8 u (i + 1) = bytes8 u i ++ [.int .u8 (byte8 u i)] := by
  simp [bytes8, List.range_succ]
@[simp] theorem bytes8_len (u : Int) (i : Nat) : (bytes8 u i).length = i := by simp [bytes8]

theorem ac97 {h : Heap} {s : V} {xs : List V} {n : Nat} {u : Int} (hs : Buf 5 1 h s xs n) (hu : 0 ≤ u ∧ u < 18446744073709551616) (hn : n + 8 ≤ 140737488355328) :
    AC prog 97 [s, .int .u64 u] h fun v h' => ∃ b', (∀ c, eraS h s c ≠ none → c ≠ b') ∧ v = .sl 1 b' 0 (n + 8) none ∧ h' = upd (eraS h s) b' (.cells 5 1 (xs ++ bytes8 u 8)) ∧ (xs ++ bytes8 u 8).length = n + 8 := by
  refine AC_of noq_ok mixed t97 ?_
  simp [c97, l97_0]
  refine W_loop (fun m tm h1 => ∃ (i : Nat), m = 8 - i ∧ i ≤ 8 ∧ tm 1 = .int .u64 u ∧ tm 5 = .int .i64 (i : Nat) ∧ Buf 5 1 h1 (tm 0) (xs ++ bytes8 u i) (n + i) ∧ Sub (eraS h s) (eraS h1 (tm 0)) ) 8 ⟨0, rfl, by omega, rfl, rfl, by simpa [bytes8] using hs, Sub.refl _⟩ ?_
  rintro m tm h1 ⟨i, rfl, hi, h1', h5, hB, hS⟩
  simp [b97_0, h1', h5]
  refine Wc_intro (fun hc => ?_) (fun hc => ?_)
  · simp at hc
    have w1 : IntKind.i64.wrap (8 * (i : Int)) = 8 * i := wrap_id (by omega) (by omega)
    have w2 : IntKind.u64.wrap (8 * (i : Int)) = 8 * i := wrap_u64 (by omega) (by omega)
    have w3 : ¬ (8 * (i : Int) < 0) := by omega
    have w4 : min (8 * (i : Int)).toNat IntKind.u64.bits = 8 * i := by simp only [IntKind.bits]; omega
    simp [s97_0, h1', h5, w1, w2, w3, w4]
    intro b1 hb1
    obtain ⟨n1, n2⟩ := hB.new hb1 (.cells 5 1 [.int .u8 (byte8 u i)])
    simp [r97_0]
    refine wApp_buf (m := 1) (ys := [.int .u8 (byte8 u i)]) n1 (by simp [cellsOf, upd_at, byte8]) rfl rfl (by omega) (by omega) (by omega) ?_
    intro b2 h2 k1 k2 k3 k4 k5
    have w5 : IntKind.i64.wrap ((i : Int) + 1) = i + 1 := wrap_id (by omega) (by omega)
    simp [r97_1, s97_1, h1', h5, w5]
    refine ⟨8 - (i + 1), by omega, i + 1, rfl, by omega, rfl, .inr ⟨b2, ?_, ?_, ?_⟩, (hS.trans n2).trans k2⟩
    · rfl
    · rw [k3, bytes8_succ, List.append_assoc]
    · simp at k4; simp; omega
  · have h8 : i = 8 := by simp at hc; omega
    subst h8
    simp [s97_2]
    rcases hB with ⟨_, e, _⟩ | ⟨b2, g1, g2, g3⟩
    · simp [bytes8] at e
    · rw [g1] at hS ⊢
      have hne : ∀ c, eraS h s c ≠ none → c ≠ b2 := by
        rintro c hc rfl
        cases hx : eraS h s c with
        | none => exact hc hx
        | some x => have := hS c x hx; rw [eraS, era_eq] at this; cases this
      refine ⟨_, ?_, b2, fun c hc => hne c hc, rfl, rfl, by simpa using g3⟩
      intro c x hx
      by_cases e : c = b2
      · subst e; rw [upd_eq] at hx; rw [← hx]; exact g2
      · rw [upd_ne _ _ _ _ e] at hx
        have := hS c x hx
        rwa [eraS, era_ne _ _ _ e] at this

/-! ### Nodes, keys -/

/-- A node. -/
structure Nd where
  op : Int
  imm : Int
  kids : List Int

def Nd.v (n : Nd) : V := .agg [.int .i64 n.op, .int .i64 n.imm, .ps 1 (ints n.kids)]

/-- The numbers that a key tells. -/
def keyNums (p : List Nat) (n : Nd) : List Int := IntKind.u64.wrap n.op :: IntKind.u64.wrap n.imm :: n.kids.map fun k => (root p k.toNat : Int)
def keyCells (l : List Int) : List V := l.flatMap fun u => bytes8 u 8
def keyStr (l : List Int) : ByteArray := ⟨(l.flatMap fun u => (List.range 8).map fun i => UInt8.ofNat (byte8 u i).toNat).toArray⟩

theorem keyCells_len (l : List Int) : (keyCells l).length = 8 * l.length := by
  induction l with
  | nil => rfl
  | cons a l ih => simp [keyCells] at ih ⊢; omega
theorem keyCells_snoc (l : List Int) (u : Int) : keyCells (l ++ [u]) = keyCells l ++ bytes8 u 8 := by simp [keyCells]

theorem bytesOfV_app : ∀ (a b : List V) (x y : List UInt8), bytesOfV a = some x → bytesOfV b = some y → bytesOfV (a ++ b) = some (x ++ y)
  | [], b, x, y, ha, hb => by simp [bytesOfV] at ha; subst ha; simpa using hb
  | v :: a, b, x, y, ha, hb => by
    unfold bytesOfV at ha
    split at ha
    · rename_i h; cases h
    · rename_i n rest h
      injection h with h1 h2; subst h1; subst h2
      cases hr : bytesOfV a with
      | none => rw [hr] at ha; cases ha
      | some z =>
        rw [hr] at ha
        simp at ha
        subst ha
        simp [bytesOfV, bytesOfV_app a b z y hr hb]
    · cases ha
theorem bytesOfV_bytes8 (u : Int) (l : List Nat) : bytesOfV (l.map fun i => V.int .u8 (byte8 u i)) = some (l.map fun i => UInt8.ofNat (byte8 u i).toNat) := by
  induction l with
  | nil => rfl
  | cons a l ih => simp [bytesOfV, ih]
theorem bytesOfV_key (l : List Int) : bytesOfV (keyCells l) = some (l.flatMap fun u => (List.range 8).map fun i => UInt8.ofNat (byte8 u i).toNat) := by
  induction l with
  | nil => rfl
  | cons a l ih =>
    simp only [keyCells, List.flatMap_cons] at ih ⊢
    exact bytesOfV_app _ _ _ _ (bytesOfV_bytes8 a _) ih

theorem wrap_u64_range (x : Int) : 0 ≤ IntKind.u64.wrap x ∧ IntKind.u64.wrap x < 18446744073709551616 := by
  simp only [IntKind.wrap, IntKind.signed, IntKind.bits]
  simp
  omega

/-- Are the operands among the first n? -/
def kidsIn (n : Nat) (l : List Int) : Bool := l.all fun k => decide (0 ≤ k ∧ k < n)

theorem keyCells_cons (a : Int) (l : List Int) : keyCells (a :: l) = bytes8 a 8 ++ keyCells l := by simp [keyCells]
theorem keyCells_nil : keyCells [] = [] := rfl

theorem ac58 {h : Heap} {b n : Nat} {cap : Option Nat} {e : TypeId} {p : List Nat} {nd : Nd} (hb : h b = some (.cells e 1 (nats p))) (hn : n = p.length) (hF : Forest p) (hp : p.length ≤ 140737488355328) (hk : nd.kids.length * 8 ≤ 140737488351232) :
    AC prog 58 [.sl 1 b 0 n cap, nd.v] h fun v h' => v = (if kidsIn p.length nd.kids then .tuple [.str (keyStr (keyNums p nd)), .bool true] else .tuple [.str ⟨#[]⟩, .bool false]) ∧ ∃ p', SameF p p' ∧ h' = upd h b (.cells e 1 (nats p')) := by
  subst hn
  refine AC_of' noq_ok mixed t58 fun R hR => ?_
  simp [c58, Nd.v]
  intro b1 hb1
  have n1 : b ≠ b1 := by rintro rfl; rw [hb] at hb1; cases hb1
  simp [r58_0, s58_0, upd_at]
  refine (ac97 (s := .nils) (xs := []) (n := 0) (.inl ⟨rfl, rfl, rfl⟩) (wrap_u64_range _) (by omega)).mono ?_
  rintro v h1 ⟨b2, g1, rfl, rfl, _⟩
  have n2 : b ≠ b2 := g1 b (by simp [eraS, upd_at, n1, hb])
  have n3 : b1 ≠ b2 := g1 b1 (by simp [eraS, upd_at])
  simp [r58_1, s58_1, eraS, upd_at, n3]
  refine (ac97 (xs := keyCells [IntKind.u64.wrap nd.op]) (n := 8) (.inr ⟨b2, rfl, by simp [upd_at, keyCells_cons, keyCells_nil], by simp [keyCells_len]⟩) (wrap_u64_range _) (by omega)).mono ?_
  rintro v h1 ⟨b3, g2, rfl, rfl, _⟩
  have n4 : b ≠ b3 := g2 b (by simp [eraS, upd_at, era_at, n1, n2, hb])
  have n5 : b1 ≠ b3 := g2 b1 (by simp [eraS, upd_at, era_at, n3])
  simp [r58_2, s58_2, l58_0, eraS, upd_at, era_at, n3, n5]
  refine W_loop' (fun m tm h1 => ∃ (i : Nat) (q : List Nat) (b' : Nat), m = nd.kids.length - i ∧ i ≤ nd.kids.length ∧ tm 0 = .sl 1 b 0 p.length cap ∧ tm 6 = .sl 1 b' 0 (8 * (i + 2)) none ∧ tm 19 = .ps 1 (ints nd.kids) ∧ tm 20 = .int .i64 (nd.kids.length : Nat) ∧ tm 21 = .int .i64 (i : Nat) ∧
    SameF p q ∧ h1 b = some (.cells e 1 (nats q)) ∧ h1 b' = some (.cells 5 1 (keyCells (IntKind.u64.wrap nd.op :: IntKind.u64.wrap nd.imm :: (nd.kids.take i).map fun k => (root p k.toNat : Int)))) ∧ b ≠ b' ∧ (∀ c x, h c = some x → c ≠ b → h1 c = some x ∧ c ≠ b') ∧ kidsIn p.length (nd.kids.take i) = true)
    nd.kids.length ⟨0, p, b3, rfl, by omega, by simp, by simp, by simp, by simp, by simp, .refl hF, by simp [upd_at, era_at, n1, n2, n4, hb], by simp [upd_at, keyCells_cons, keyCells_nil], n4, ?_, rfl⟩ ?_
  · intro c x hc hne
    have m1 : c ≠ b1 := by rintro rfl; rw [hc] at hb1; cases hb1
    have m2 : c ≠ b2 := g1 c (by simp [eraS, upd_at, m1, hc])
    have m3 : c ≠ b3 := g2 c (by simp [eraS, upd_at, era_at, m1, m2, hc])
    simp [upd_at, era_at, m1, m2, m3, hc]
  rintro J hJ m tm h1 ⟨i, q, b', rfl, hi, h0, h6, h19, h20, h21, hS, hq, hb', hne, hfr, hin⟩
  simp [b58_0, h20, h21]
  have frame : Sub (upd h b (.cells e 1 (nats q))) h1 := by
    intro c x hc
    by_cases e1 : c = b
    · subst e1; rw [upd_eq] at hc; rw [← hc]; exact hq
    · rw [upd_ne _ _ _ _ e1] at hc; exact (hfr c x hc e1).1
  refine Wc_intro (fun hc => ?_) (fun hc => ?_)
  · simp at hc
    have hget : nd.kids[i]? = some nd.kids[i] := List.getElem?_eq_getElem hc
    have out : ¬ (0 ≤ nd.kids[i] ∧ nd.kids[i] < p.length) → kidsIn p.length nd.kids = false := by
      intro hn
      rw [Bool.eq_false_iff]
      intro ht
      have := List.all_eq_true.1 ht nd.kids[i] (List.getElem_mem _)
      simp at this
      exact hn this
    by_cases c1 : nd.kids[i] < 0
    · simp [s58_3, r58_3, h0, h6, h19, h20, h21, hget, c1]
      exact hR _ _ _ frame ⟨by rw [out (by omega)]; rfl, q, hS, rfl⟩
    · by_cases c2 : (p.length : Int) ≤ nd.kids[i]
      · simp [s58_3, r58_3, h0, h6, h19, h20, h21, hget, c1, c2]
        exact hR _ _ _ frame ⟨by rw [out (by omega)]; rfl, q, hS, rfl⟩
      · obtain ⟨k, hk'⟩ : ∃ k : Nat, nd.kids[i] = k := ⟨nd.kids[i].toNat, by omega⟩
        have hkp : k < p.length := by omega
        have c3 : ¬ p.length ≤ k := by omega
        rw [hk'] at hget
        simp [s58_3, r58_3, h0, h6, h19, h20, h21, hget, c3, s58_4]
        refine (ac59 (p := q) (i := k) hq hS.len.symm hS.forest (by rw [hS.len]; exact hkp)).mono ?_
        rintro v h2 ⟨rfl, q2, hS2, rfl⟩
        have hrk : root q k = root p k := hS.same k hkp
        have hrp : root p k < p.length := root_lt hkp
        rw [hrk]
        have w1 : IntKind.u64.wrap (root p k : Int) = root p k := wrap_u64 (by omega) (by omega)
        simp [r58_4, w1]
        refine (ac97 (xs := keyCells (IntKind.u64.wrap nd.op :: IntKind.u64.wrap nd.imm :: (nd.kids.take i).map fun k => (root p k.toNat : Int))) (n := 8 * (i + 2)) (.inr ⟨b', rfl, by rw [upd_ne _ _ _ _ (Ne.symm hne)]; exact hb', by simp [keyCells_len]; omega⟩) (by omega) (by omega)).mono ?_
        rintro v h3 ⟨b4, k1, rfl, rfl, _⟩
        have m1 : b ≠ b4 := k1 b (by simp [eraS, upd_at, era_at, hne])
        have w5 : IntKind.i64.wrap ((i : Int) + 1) = i + 1 := wrap_id (by omega) (by omega)
        simp [r58_5, s58_5, h0, h19, h20, h21, w5, eraS]
        refine ⟨nd.kids.length - (i + 1), by omega, hJ _ _ _ ⟨i + 1, q2, b4, rfl, by omega, by simp [h0], ?_, by simp [h19], by simp [h20], by simp, hS.trans hS2, ?_, ?_, m1, ?_, ?_⟩⟩
        · simp; omega
        · simp [upd_at, era_at, m1, hne]
        · rw [upd_eq, List.take_add_one, hget]
          simp only [Option.toList, List.map_append, List.map_cons, List.map_nil, Int.toNat_natCast, List.map_take]
          rw [← keyCells_snoc, List.cons_append, List.cons_append]
        · intro c x hc hcb
          obtain ⟨f1, f2⟩ := hfr c x hc hcb
          have m2 : c ≠ b4 := k1 c (by simp [eraS, upd_at, era_at, hcb, f1, f2])
          simp [upd_at, era_at, hcb, f1, f2, m2]
        · rw [List.take_add_one, hget, kidsIn, List.all_append, ← kidsIn, hin]
          simp [hkp]
  · have hi' : i = nd.kids.length := by simp at hc; omega
    subst hi'
    simp at hin
    have ht : List.take (8 * (nd.kids.length + 2)) (keyCells (IntKind.u64.wrap nd.op :: IntKind.u64.wrap nd.imm :: List.map (fun k => (root p k.toNat : Int)) nd.kids)) = keyCells (keyNums p nd) := by
      rw [List.take_of_length_le (by simp [keyCells_len]), keyNums]
    simp [s58_6, h6, aCstr, cellsOf, hb', keyCells_len, ht, bytesOfV_key]
    exact hR _ _ _ frame ⟨by rw [hin]; rfl, q, hS, rfl⟩

end Go.Abs
