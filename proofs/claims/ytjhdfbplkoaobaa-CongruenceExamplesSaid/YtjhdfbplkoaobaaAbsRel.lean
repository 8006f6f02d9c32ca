/- What a world has to do with an abstract state; what a step leaves of it. -/
import Derived.Test.YtjhdfbplkoaobaaAbsCore
import Derived.Laws.AppendOwn
import Derived.Maps.AppendAt
set_option linter.unusedVariables false
set_option linter.unusedSimpArgs false
namespace Go.Abs

/-- Which block of the world stands for an abstract block, and for how many elements it has room. -/
abbrev Ren := Nat → Option (Nat × Nat)

inductive VRel (ρ : Ren) (O : Nat → Prop) (w : World) : V → Value → Prop where
  | undef : VRel ρ O w .undef Go.undef
  | top (cv : Value) : VRel ρ O w .top cv
  | int (k : IntKind) (n : Int) : VRel ρ O w (.int k n) (.int k n)
  | bool (b : Bool) : VRel ρ O w (.bool b) (.bool b)
  | str (s : ByteArray) : VRel ρ O w (.str s) (.string s)
  | nils : VRel ρ O w .nils (.slice none 0 0)
  | ps (esz : Nat) (xs : List V) (A : Option Addr) (c : Nat) (cvs : Nat → Value) (hc : xs.length ≤ c) (hm : c ≤ maxLen) (hs : ∀ x ∈ xs, x.cells.length = esz)
      (ha : xs ≠ [] → ∃ a, A = some a ∧ ¬ O a.block ∧ a.block < w.heap.size ∧
        ∀ (i : Nat) (x : V), xs[i]? = some x → ∀ (j : Nat) (u : V), x.cells[j]? = some u → w.cell? (a.add (i * esz + j)) = some (cvs (i * esz + j)))
      (hv : ∀ (i : Nat) (x : V), xs[i]? = some x → ∀ (j : Nat) (u : V), x.cells[j]? = some u → VRel ρ O w u (cvs (i * esz + j))) :
      VRel ρ O w (.ps esz xs) (.slice A xs.length c)
  | sl (esz b off n cb K : Nat) (hr : ρ b = some (cb, K)) (hk : off + n ≤ K) : VRel ρ O w (.sl esz b off n none) (.slice (some ⟨cb, off * esz, none⟩) n (K - off))
  | slc (esz b off n c cb K : Nat) (hr : ρ b = some (cb, K)) (hn : n ≤ c) (hk : off + c ≤ K) : VRel ρ O w (.sl esz b off n (some c)) (.slice (some ⟨cb, off * esz, none⟩) n c)
  | nilp : VRel ρ O w .nilp (.pointer none)
  | ptr (b off cb K : Nat) (hr : ρ b = some (cb, K)) : VRel ρ O w (.ptr b off) (.pointer (some ⟨cb, off, none⟩))
  | pp (xs : List V) (a : Addr) (cvs : Nat → Value) (ho : ¬ O a.block) (hl : a.block < w.heap.size)
      (ha : ∀ (j : Nat) (u : V), xs[j]? = some u → w.cell? (a.add j) = some (cvs j)) (hv : ∀ (j : Nat) (u : V), xs[j]? = some u → VRel ρ O w u (cvs j)) : VRel ρ O w (.pp xs) (.pointer (some a))
  | agg (xs : List V) (cs : List Value) (hl : xs.length = cs.length) (hv : ∀ (j : Nat) (x : V) (u : Value), xs[j]? = some x → cs[j]? = some u → VRel ρ O w x u) : VRel ρ O w (.agg xs) (.agg cs.toArray)
  | tuple (xs : List V) (cs : List Value) (hl : xs.length = cs.length) (hv : ∀ (j : Nat) (x : V) (u : Value), xs[j]? = some x → cs[j]? = some u → VRel ρ O w x u) : VRel ρ O w (.tuple xs) (.tuple cs.toArray)
  | nilm : VRel ρ O w .nilm (.map none)
  | mp (b cb K : Nat) (hr : ρ b = some (cb, K)) : VRel ρ O w (.mp b) (.map (some cb))
  | fn (f : FuncId) : VRel ρ O w (.fn f) (.func (.func f) #[] #[])

theorem add_block (a : Addr) (n : Nat) : (a.add n).block = a.block := by unfold Addr.add; split <;> rfl

theorem VRel.mono {ρ ρ' : Ren} {O O' : Nat → Prop} {w w' : World} (hρ : ∀ b x, ρ b = some x → ρ' b = some x) (hsz : w.heap.size ≤ w'.heap.size)
    (hO : ∀ k, k < w.heap.size → O' k → O k) (hw : ∀ k, k < w.heap.size → ¬ O k → w'.heap[k]? = w.heap[k]?) {v : V} {cv : Value} (h : VRel ρ O w v cv) : VRel ρ' O' w' v cv := by
  induction h with
  | undef => exact .undef
  | top cv => exact .top cv
  | int k n => exact .int k n
  | bool b => exact .bool b
  | str s => exact .str s
  | nils => exact .nils
  | ps esz xs A c cvs hc hm hs ha hv ih =>
    refine .ps esz xs A c cvs hc hm hs (fun hne => ?_) ih
    obtain ⟨a, rfl, ho, hl, hcell⟩ := ha hne
    refine ⟨a, rfl, fun h => ho (hO _ hl h), by omega, fun i x hx j c hj => ?_⟩
    have := hcell i x hx j c hj
    rw [← this]
    exact World.cell?_of_block (w := w) (by rw [add_block]; exact hw _ hl ho)
  | sl esz b off n cb K hr hk => exact .sl esz b off n cb K (hρ _ _ hr) hk
  | slc esz b off n c cb K hr hn hk => exact .slc esz b off n c cb K (hρ _ _ hr) hn hk
  | nilp => exact .nilp
  | ptr b off cb K hr => exact .ptr b off cb K (hρ _ _ hr)
  | pp xs a cvs ho hl ha hv ih =>
    refine .pp xs a cvs (fun h => ho (hO _ hl h)) (by omega) (fun j c hj => ?_) ih
    rw [← ha j c hj]
    exact World.cell?_of_block (w := w) (by rw [add_block]; exact hw _ hl ho)
  | agg xs cs hl hv ih => exact .agg xs cs hl ih
  | tuple xs cs hl hv ih => exact .tuple xs cs hl ih
  | nilm => exact .nilm
  | mp b cb K hr => exact .mp b cb K (hρ _ _ hr)
  | fn f => exact .fn f

/-- The blocks of the world that stand for an abstract block. -/
def Own (ρ : Ren) (h : Heap) (k : Nat) : Prop := ∃ b K, h b ≠ none ∧ ρ b = some (k, K)

def BRel (ρ : Ren) (O : Nat → Prop) (w : World) (cb K : Nat) : Blk → Prop
  | .cells e esz xs => ∃ cur : Array Value, w.heap[cb]? = some (.cells cur e (0, 0)) ∧ cur.size = K * esz ∧ K ≤ maxLen ∧ xs.length ≤ cur.size ∧
      ∀ (j : Nat) (x : V), xs[j]? = some x → x.isCell = true ∧ ∃ cv, cur[j]? = some cv ∧ VRel ρ O w x cv
  | .map es => ∃ ces : Array MapEntry, w.heap[cb]? = some (.map ces ces.size) ∧ ces.size = es.length ∧
      ∀ (j : Nat) (k v : V), es[j]? = some (k, v) → ∃ me : MapEntry, ces[j]? = some me ∧ me.born = j ∧ VRel ρ O w k me.key ∧ VRel ρ O w v me.val

theorem BRel.mono {ρ ρ' : Ren} {O O' : Nat → Prop} {w w' : World} (hρ : ∀ b x, ρ b = some x → ρ' b = some x) (hsz : w.heap.size ≤ w'.heap.size)
    (hO : ∀ k, k < w.heap.size → O' k → O k) (hw : ∀ k, k < w.heap.size → ¬ O k → w'.heap[k]? = w.heap[k]?) {cb K : Nat} (hcb : w'.heap[cb]? = w.heap[cb]?) {x : Blk}
    (h : BRel ρ O w cb K x) : BRel ρ' O' w' cb K x := by
  cases x with
  | cells e esz xs =>
    obtain ⟨cur, h1, h2, h3, h4, h5⟩ := h
    refine ⟨cur, hcb.trans h1, h2, h3, h4, fun j x hx => ?_⟩
    obtain ⟨a, cv, b, c⟩ := h5 j x hx
    exact ⟨a, cv, b, c.mono hρ hsz hO hw⟩
  | map es =>
    obtain ⟨ces, h1, h2, h3⟩ := h
    refine ⟨ces, hcb.trans h1, h2, fun j k v hx => ?_⟩
    obtain ⟨me, a, b, c, d⟩ := h3 j k v hx
    exact ⟨me, a, b, c.mono hρ hsz hO hw, d.mono hρ hsz hO hw⟩

structure St (ρ : Ren) (h : Heap) (w : World) : Prop where
  fresh : ∃ N, ∀ b, N ≤ b → ρ b = none
  lt : ∀ b c K, ρ b = some (c, K) → c < w.heap.size
  cap : ∀ b c K, ρ b = some (c, K) → K ≤ maxLen
  inj : ∀ b b' c K K', h b ≠ none → h b' ≠ none → ρ b = some (c, K) → ρ b' = some (c, K') → b = b'
  blk : ∀ b x, h b = some x → ∃ cb K, ρ b = some (cb, K) ∧ BRel ρ (Own ρ h) w cb K x

structure Fr (ρ : Ren) (h : Heap) (w : World) (ρ' : Ren) (h' : Heap) (w' : World) : Prop where
  os : w'.os = w.os
  tape : w'.tape = w.tape
  output : w'.output = w.output
  size : w.heap.size ≤ w'.heap.size
  ext : ∀ b x, ρ b = some x → ρ' b = some x
  keep : ∀ k, k < w.heap.size → ¬ Own ρ h k → w'.heap[k]? = w.heap[k]?
  own : ∀ k, k < w.heap.size → Own ρ' h' k → Own ρ h k

theorem Fr.refl (ρ : Ren) (h : Heap) (w : World) : Fr ρ h w ρ h w := ⟨rfl, rfl, rfl, Nat.le_refl _, fun _ _ h => h, fun _ _ _ => rfl, fun _ _ h => h⟩

theorem Fr.trans {ρ ρ' ρ'' : Ren} {h h' h'' : Heap} {w w' w'' : World} (a : Fr ρ h w ρ' h' w') (b : Fr ρ' h' w' ρ'' h'' w'') : Fr ρ h w ρ'' h'' w'' :=
  ⟨b.os.trans a.os, b.tape.trans a.tape, b.output.trans a.output, Nat.le_trans a.size b.size, fun c x hx => b.ext c x (a.ext c x hx),
    fun k hk ho => (b.keep k (Nat.lt_of_lt_of_le hk a.size) (fun h => ho (a.own k hk h))).trans (a.keep k hk ho),
    fun k hk ho => a.own k hk (b.own k (Nat.lt_of_lt_of_le hk a.size) ho)⟩

theorem VRel.fr {ρ ρ' : Ren} {h h' : Heap} {w w' : World} (f : Fr ρ h w ρ' h' w') {v : V} {cv : Value} (hv : VRel ρ (Own ρ h) w v cv) : VRel ρ' (Own ρ' h') w' v cv :=
  hv.mono f.ext f.size f.own f.keep

theorem BRel.fr {ρ ρ' : Ren} {h h' : Heap} {w w' : World} (f : Fr ρ h w ρ' h' w') {cb K : Nat} (hcb : w'.heap[cb]? = w.heap[cb]?) {x : Blk} (hv : BRel ρ (Own ρ h) w cb K x) : BRel ρ' (Own ρ' h') w' cb K x :=
  hv.mono f.ext f.size f.own f.keep hcb

/-- The temporaries. -/
def TRel (ρ : Ren) (O : Nat → Prop) (w : World) (tm : Nat → V) (a : Act) : Prop := ∀ t, VRel ρ O w (tm t) (a.tmps.getD t Go.undef)

theorem TRel.fr {ρ ρ' : Ren} {h h' : Heap} {w w' : World} (f : Fr ρ h w ρ' h' w') {tm : Nat → V} {a : Act} (ht : TRel ρ (Own ρ h) w tm a) : TRel ρ' (Own ρ' h') w' tm a :=
  fun t => (ht t).fr f

theorem TRel.putd {ρ : Ren} {O : Nat → Prop} {w : World} {tm : Nat → V} {a : Act} (ht : TRel ρ O w tm a) {d : Option Nat} (hd : ∀ t, d = some t → t < a.tmps.size) {v : V} {cv : Value} (hv : VRel ρ O w v cv) :
    TRel ρ O w (putd tm d v) (a.put d cv) := by
  intro t
  cases d with
  | none => exact ht t
  | some d =>
    have hd := hd d rfl
    show VRel ρ O w (put tm d v t) _
    unfold put Act.put
    by_cases e : t = d
    · subst e
      rw [if_pos rfl]
      simpa [hd] using hv
    · rw [if_neg e]
      have := ht t
      simpa [Array.getElem?_setIfInBounds_ne (Ne.symm e)] using this

theorem putd_size (a : Act) (d : Option Nat) (v : Value) : (a.put d v).tmps.size = a.tmps.size := by
  cases d <;> simp [Act.put]
theorem putd_defers (a : Act) (d : Option Nat) (v : Value) : (a.put d v).defers = a.defers := by
  cases d <;> simp [Act.put]

theorem Own.upd_of {ρ : Ren} {h : Heap} {b : Nat} {x : Blk} {k : Nat} (ho : Own ρ (upd h b x) k) : Own ρ h k ∨ ∃ K, ρ b = some (k, K) := by
  obtain ⟨c, K, hc, hr⟩ := ho
  by_cases e : c = b
  · subst e; exact .inr ⟨K, hr⟩
  · rw [upd_ne _ _ _ _ e] at hc; exact .inl ⟨c, K, hc, hr⟩

theorem Own.era_of {ρ : Ren} {h : Heap} {b : Nat} {k : Nat} (ho : Own ρ (era h b) k) : Own ρ h k := by
  obtain ⟨c, K, hc, hr⟩ := ho
  by_cases e : c = b
  · subst e; rw [era_eq] at hc; exact absurd rfl hc
  · rw [era_ne _ _ _ e] at hc; exact ⟨c, K, hc, hr⟩

/-- Nothing but a draw. -/
theorem St.same {ρ : Ren} {h : Heap} {w w' : World} (hs : St ρ h w) (heap : w'.heap = w.heap) (os : w'.os = w.os) (tape : w'.tape = w.tape) (output : w'.output = w.output) : St ρ h w' ∧ Fr ρ h w ρ h w' := by
  have f : Fr ρ h w ρ h w' := ⟨os, tape, output, by rw [heap]; exact Nat.le_refl _, fun _ _ h => h, fun _ _ _ => by rw [heap], fun _ _ h => h⟩
  refine ⟨⟨hs.fresh, fun b c K hr => by rw [heap]; exact hs.lt b c K hr, hs.cap, hs.inj, fun b x hx => ?_⟩, f⟩
  obtain ⟨cb, K, hr, hb⟩ := hs.blk b x hx
  exact ⟨cb, K, hr, hb.fr f (by rw [heap])⟩

/-- A block is let go. -/
theorem St.era {ρ : Ren} {h : Heap} {w : World} (hs : St ρ h w) (b : Nat) : St ρ (era h b) w ∧ Fr ρ h w ρ (era h b) w := by
  have f : Fr ρ h w ρ (Abs.era h b) w := ⟨rfl, rfl, rfl, Nat.le_refl _, fun _ _ h => h, fun _ _ _ => rfl, fun _ _ h => h.era_of⟩
  have hne : ∀ c, Abs.era h b c ≠ none → h c ≠ none := by
    intro c hc
    by_cases e : c = b
    · subst e; rw [era_eq] at hc; exact absurd rfl hc
    · rwa [era_ne _ _ _ e] at hc
  refine ⟨⟨hs.fresh, hs.lt, hs.cap, fun c c' k K K' hc hc' => hs.inj c c' k K K' (hne _ hc) (hne _ hc'), fun c x hx => ?_⟩, f⟩
  by_cases e : c = b
  · subst e; rw [era_eq] at hx; exact absurd hx (by simp)
  · rw [era_ne _ _ _ e] at hx
    obtain ⟨cb, K, hr, hb⟩ := hs.blk c x hx
    exact ⟨cb, K, hr, hb.fr f rfl⟩

/-- A smaller heap. -/
theorem St.sub {ρ : Ren} {h h' : Heap} {w : World} (hs : St ρ h w) (hsub : ∀ b x, h' b = some x → h b = some x) : St ρ h' w ∧ Fr ρ h w ρ h' w := by
  have hne : ∀ c, h' c ≠ none → h c ≠ none := by
    intro c hc
    cases e : h' c with
    | none => exact absurd e hc
    | some x => rw [hsub c x e]; simp
  have ho : ∀ k, Own ρ h' k → Own ρ h k := fun k ⟨c, K, hc, hr⟩ => ⟨c, K, hne c hc, hr⟩
  have f : Fr ρ h w ρ h' w := ⟨rfl, rfl, rfl, Nat.le_refl _, fun _ _ h => h, fun _ _ _ => rfl, fun k _ h => ho k h⟩
  refine ⟨⟨hs.fresh, hs.lt, hs.cap, fun c c' k K K' hc hc' => hs.inj c c' k K K' (hne _ hc) (hne _ hc'), fun c x hx => ?_⟩, f⟩
  obtain ⟨cb, K, hr, hb⟩ := hs.blk c x (hsub c x hx)
  exact ⟨cb, K, hr, hb.fr f rfl⟩

def ren (ρ : Ren) (b : Nat) (x : Nat × Nat) : Ren := fun c => if c = b then some x else ρ c
theorem ren_eq (ρ : Ren) (b : Nat) (x : Nat × Nat) : ren ρ b x b = some x := by simp [ren]
theorem ren_ne (ρ : Ren) (b c : Nat) (x : Nat × Nat) (h : c ≠ b) : ren ρ b x c = ρ c := by simp [ren, h]

/-- A new block, whatever it holds. `w'`: the world behind it; the new block's number is not owned yet. -/
theorem St.bind {ρ : Ren} {h : Heap} {w w' : World} (hs : St ρ h w) {b cb K : Nat} (hKm : K ≤ maxLen) (hb : ρ b = none) (hhb : h b = none) {x : Blk}
    (os : w'.os = w.os) (tape : w'.tape = w.tape) (output : w'.output = w.output) (size : w.heap.size ≤ w'.heap.size)
    (hcb : w.heap.size ≤ cb) (hlt : cb < w'.heap.size) (hold : ∀ k, k < w.heap.size → w'.heap[k]? = w.heap[k]?)
    (hrel : Fr ρ h w (ren ρ b (cb, K)) (upd h b x) w' → BRel (ren ρ b (cb, K)) (Own (ren ρ b (cb, K)) (upd h b x)) w' cb K x) :
    St (ren ρ b (cb, K)) (upd h b x) w' ∧ Fr ρ h w (ren ρ b (cb, K)) (upd h b x) w' := by
  have hext : ∀ c y, ρ c = some y → ren ρ b (cb, K) c = some y := by
    intro c y hy
    have : c ≠ b := by rintro rfl; rw [hb] at hy; cases hy
    rw [ren_ne _ _ _ _ this]; exact hy
  have hown : ∀ k, k < w.heap.size → Own (ren ρ b (cb, K)) (upd h b x) k → Own ρ h k := by
    rintro k hk ⟨c, K', hc, hr⟩
    by_cases e : c = b
    · subst e; rw [ren_eq] at hr; injection hr with hr; injection hr with hr; omega
    · rw [ren_ne _ _ _ _ e] at hr; rw [upd_ne _ _ _ _ e] at hc; exact ⟨c, K', hc, hr⟩
  have f : Fr ρ h w (ren ρ b (cb, K)) (upd h b x) w' := ⟨os, tape, output, size, hext, fun k hk _ => hold k hk, hown⟩
  refine ⟨⟨?_, ?_, ?_, ?_, ?_⟩, f⟩
  · obtain ⟨N, hN⟩ := hs.fresh
    refine ⟨max N (b + 1), fun c hc => ?_⟩
    rw [ren_ne _ _ _ _ (by omega)]
    exact hN c (by omega)
  · intro c k K' hr
    by_cases e : c = b
    · subst e; rw [ren_eq] at hr; injection hr with hr; injection hr with hr; omega
    · rw [ren_ne _ _ _ _ e] at hr; exact Nat.lt_of_lt_of_le (hs.lt _ _ _ hr) size
  · intro c k K' hr
    by_cases e : c = b
    · subst e; rw [ren_eq] at hr; injection hr with hr; injection hr with _ hr; omega
    · rw [ren_ne _ _ _ _ e] at hr; exact hs.cap _ _ _ hr
  · intro c c' k K1 K2 hc hc' hr hr'
    by_cases e : c = b
    · subst e
      by_cases e' : c' = c
      · exact e'.symm
      · rw [ren_eq] at hr; rw [ren_ne _ _ _ _ e'] at hr'
        injection hr with hr; injection hr with hr
        have := hs.lt _ _ _ hr'
        omega
    · rw [ren_ne _ _ _ _ e] at hr; rw [upd_ne _ _ _ _ e] at hc
      by_cases e' : c' = b
      · subst e'
        rw [ren_eq] at hr'
        injection hr' with hr'; injection hr' with hr'
        have := hs.lt _ _ _ hr
        omega
      · rw [ren_ne _ _ _ _ e'] at hr'; rw [upd_ne _ _ _ _ e'] at hc'
        exact hs.inj c c' k K1 K2 hc hc' hr hr'
  · intro c y hy
    by_cases e : c = b
    · subst e
      rw [upd_eq] at hy; injection hy with hy; subst hy
      exact ⟨cb, K, ren_eq _ _ _, hrel f⟩
    · rw [upd_ne _ _ _ _ e] at hy
      obtain ⟨k, K', hr, hb'⟩ := hs.blk c y hy
      exact ⟨k, K', hext _ _ hr, hb'.fr f (hold k (hs.lt _ _ _ hr))⟩

/-- A block's content turns. -/
theorem St.turn {ρ : Ren} {h : Heap} {w w' : World} (hs : St ρ h w) {b cb K : Nat} (hr : ρ b = some (cb, K)) {x0 x : Blk} (hhb : h b = some x0)
    (os : w'.os = w.os) (tape : w'.tape = w.tape) (output : w'.output = w.output) (size : w'.heap.size = w.heap.size)
    (hold : ∀ k, k ≠ cb → w'.heap[k]? = w.heap[k]?)
    (hrel : Fr ρ h w ρ (upd h b x) w' → BRel ρ (Own ρ (upd h b x)) w' cb K x) :
    St ρ (upd h b x) w' ∧ Fr ρ h w ρ (upd h b x) w' := by
  have hob : Own ρ h cb := ⟨b, K, by rw [hhb]; simp, hr⟩
  have hown : ∀ k, Own ρ (upd h b x) k → Own ρ h k := by
    rintro k ho
    rcases ho.upd_of with ho | ⟨K', hk⟩
    · exact ho
    · rw [hr] at hk; injection hk with hk; injection hk with hk; subst hk; exact hob
  have f : Fr ρ h w ρ (upd h b x) w' := ⟨os, tape, output, by omega, fun _ _ h => h, fun k _ hk => hold k (fun e => hk (e ▸ hob)), fun k _ ho => hown k ho⟩
  have hne : ∀ c, upd h b x c ≠ none → h c ≠ none := by
    intro c hc
    by_cases e : c = b
    · subst e; rw [hhb]; simp
    · rwa [upd_ne _ _ _ _ e] at hc
  refine ⟨⟨hs.fresh, fun c k K' hk => by rw [size]; exact hs.lt _ _ _ hk, hs.cap, fun c c' k K1 K2 hc hc' => hs.inj c c' k K1 K2 (hne _ hc) (hne _ hc'), fun c y hy => ?_⟩, f⟩
  by_cases e : c = b
  · subst e
    rw [upd_eq] at hy; injection hy with hy; subst hy
    exact ⟨cb, K, hr, hrel f⟩
  · rw [upd_ne _ _ _ _ e] at hy
    obtain ⟨k, K', hk, hb'⟩ := hs.blk c y hy
    refine ⟨k, K', hk, hb'.fr f (hold k ?_)⟩
    rintro rfl
    exact e (hs.inj c b k K' K (by rw [hy]; simp) (by rw [hhb]; simp) hk hr)

/-- An old block is let go under its name; a new name stands for it, or for a new block. -/
theorem St.rename {ρ : Ren} {h : Heap} {w w' : World} (hs : St ρ h w) {b b' cb K cb' K' : Nat} (hKm : K' ≤ maxLen) (hr : ρ b = some (cb, K)) {x0 x : Blk} (hhb : h b = some x0) (hb' : ρ b' = none) (hhb' : h b' = none)
    (hcb : cb' = cb ∨ w.heap.size ≤ cb') (hlt : cb' < w'.heap.size)
    (os : w'.os = w.os) (tape : w'.tape = w.tape) (output : w'.output = w.output) (size : w.heap.size ≤ w'.heap.size)
    (hold : ∀ k, k < w.heap.size → k ≠ cb → w'.heap[k]? = w.heap[k]?)
    (hrel : Fr ρ h w (ren ρ b' (cb', K')) (upd (Abs.era h b) b' x) w' → BRel (ren ρ b' (cb', K')) (Own (ren ρ b' (cb', K')) (upd (Abs.era h b) b' x)) w' cb' K' x) :
    St (ren ρ b' (cb', K')) (upd (Abs.era h b) b' x) w' ∧ Fr ρ h w (ren ρ b' (cb', K')) (upd (Abs.era h b) b' x) w' := by
  have hbb : b' ≠ b := by rintro rfl; rw [hhb] at hhb'; cases hhb'
  have hob : Own ρ h cb := ⟨b, K, by rw [hhb]; simp, hr⟩
  have hcl := hs.lt _ _ _ hr
  have hext : ∀ c y, ρ c = some y → ren ρ b' (cb', K') c = some y := by
    intro c y hy
    have : c ≠ b' := by rintro rfl; rw [hb'] at hy; cases hy
    rw [ren_ne _ _ _ _ this]; exact hy
  have hown : ∀ k, k < w.heap.size → Own (ren ρ b' (cb', K')) (upd (Abs.era h b) b' x) k → Own ρ h k := by
    rintro k hk0 ⟨c, K2, hc, hk⟩
    by_cases e : c = b'
    · subst e; rw [ren_eq] at hk; injection hk with hk; injection hk with hk; subst hk
      rcases hcb with rfl | hcb
      · exact hob
      · omega
    · rw [ren_ne _ _ _ _ e] at hk; rw [upd_ne _ _ _ _ e] at hc
      exact Own.era_of ⟨c, K2, hc, hk⟩
  have f : Fr ρ h w (ren ρ b' (cb', K')) (upd (Abs.era h b) b' x) w' := ⟨os, tape, output, size, hext, fun k hk0 hk => hold k hk0 (fun e => hk (e ▸ hob)), hown⟩
  have hne : ∀ c, c ≠ b' → upd (Abs.era h b) b' x c ≠ none → c ≠ b ∧ h c ≠ none := by
    intro c e hc
    rw [upd_ne _ _ _ _ e] at hc
    by_cases e2 : c = b
    · subst e2; rw [era_eq] at hc; exact absurd rfl hc
    · rw [era_ne _ _ _ e2] at hc; exact ⟨e2, hc⟩
  have clash : ∀ c k2, c ≠ b' → upd (Abs.era h b) b' x c ≠ none → ρ c = some (cb', k2) → False := by
    intro c k2 e hc hk
    obtain ⟨h1, h2⟩ := hne c e hc
    rcases hcb with rfl | hcb
    · exact h1 (hs.inj c b _ _ _ h2 (by rw [hhb]; simp) hk hr)
    · have := hs.lt _ _ _ hk; omega
  refine ⟨⟨?_, ?_, ?_, ?_, ?_⟩, f⟩
  · obtain ⟨N, hN⟩ := hs.fresh
    refine ⟨max N (b' + 1), fun c hc => ?_⟩
    rw [ren_ne _ _ _ _ (by omega)]
    exact hN c (by omega)
  · intro c k K2 hk
    by_cases e : c = b'
    · subst e; rw [ren_eq] at hk; injection hk with hk; injection hk with hk; subst hk; exact hlt
    · rw [ren_ne _ _ _ _ e] at hk; exact Nat.lt_of_lt_of_le (hs.lt _ _ _ hk) size
  · intro c k K2 hk
    by_cases e : c = b'
    · subst e; rw [ren_eq] at hk; injection hk with hk; injection hk with _ hk; omega
    · rw [ren_ne _ _ _ _ e] at hk; exact hs.cap _ _ _ hk
  · intro c c' k K1 K2 hc hc' hk hk'
    by_cases e : c = b'
    · by_cases e' : c' = b'
      · rw [e, e']
      · subst e
        rw [ren_eq] at hk; injection hk with hk; injection hk with hk; subst hk
        rw [ren_ne _ _ _ _ e'] at hk'
        exact (clash c' _ e' hc' hk').elim
    · obtain ⟨h1, h2⟩ := hne c e hc
      rw [ren_ne _ _ _ _ e] at hk
      by_cases e' : c' = b'
      · subst e'
        rw [ren_eq] at hk'; injection hk' with hk'; injection hk' with hk'; subst hk'
        exact (clash c _ e hc hk).elim
      · obtain ⟨_, h4⟩ := hne c' e' hc'
        rw [ren_ne _ _ _ _ e'] at hk'
        exact hs.inj c c' k K1 K2 h2 h4 hk hk'
  · intro c y hy
    by_cases e : c = b'
    · subst e
      rw [upd_eq] at hy; injection hy with hy; subst hy
      exact ⟨cb', K', ren_eq _ _ _, hrel f⟩
    · have h0 := hne c e (by rw [hy]; simp)
      rw [upd_ne _ _ _ _ e, era_ne _ _ _ h0.1] at hy
      obtain ⟨k, K2, hk, hbr⟩ := hs.blk c y hy
      refine ⟨k, K2, hext _ _ hk, hbr.fr f (hold k (hs.lt _ _ _ hk) ?_)⟩
      rintro rfl
      exact h0.1 (hs.inj c b k K2 K h0.2 (by rw [hhb]; simp) hk hr)

/-- A name that nothing bears. -/
theorem St.name {ρ : Ren} {h : Heap} {w : World} (hs : St ρ h w) : ∃ b, ρ b = none ∧ h b = none := by
  obtain ⟨N, hN⟩ := hs.fresh
  refine ⟨N, hN N (Nat.le_refl _), ?_⟩
  cases e : h N with
  | none => rfl
  | some x =>
    obtain ⟨cb, K, hr, _⟩ := hs.blk N x e
    rw [hN N (Nat.le_refl _)] at hr
    cases hr

end Go.Abs
