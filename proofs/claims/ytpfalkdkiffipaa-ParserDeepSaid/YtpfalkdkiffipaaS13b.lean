/- Plain: a document's pieces are well formed and no longer than it; the builder's state stays in order. -/
import Derived.Test.YtpfalkdkiffipaaS13a
namespace Go.Proofs.Ytpfalkdkiffipaa
namespace S
/-- are pieces in order? (true: within a tag) -/
def wf : Bool → List Pc → Prop
  | b, [] => b = false
  | b, t :: ts => (b = false ∧ (t.kind = 7 ∨ t.kind = 6 ∨ t.kind = 5) ∧ wf false ts) ∨ (b = false ∧ t.kind = 1 ∧ wf true ts) ∨ (b = true ∧ t.kind = 2 ∧ wf true ts) ∨ (b = true ∧ (t.kind = 3 ∨ t.kind = 4) ∧ wf false ts)
theorem attrL_is (l : B) (x : List Pc) (q : B) (h : attrL l = some (x, q)) : ∃ n v, x = [⟨2, n, v⟩] := by
  unfold attrL at h
  split at h; · simp at h
  split at h; · simp at h
  split at h; · simp at h
  split at h; · simp at h
  split at h; · simp at h
  split at h; · simp at h
  cases hd : decode (aRaw l).1 with
  | none => rw [hd] at h; simp at h
  | some v => rw [hd] at h; simp only [Option.map_some, Option.some.injEq, Prod.mk.injEq] at h; exact ⟨_, _, h.1.symm⟩
theorem attrsL_wf (k : Nat) : ∀ (l : B) (x : List Pc) (q : B) (y : List Pc), attrsL k l = some (x, q) → wf false y → wf true (x ++ y) := by
  induction k with
  | zero => intro l x q y h; simp [attrsL] at h
  | succ k ih =>
    intro l x q y h hy
    unfold attrsL at h
    split at h
    · simp only [Option.some.injEq, Prod.mk.injEq] at h; rw [← h.1]; exact .inr (.inr (.inr ⟨rfl, .inl rfl, hy⟩))
    split at h
    · simp only [Option.some.injEq, Prod.mk.injEq] at h; rw [← h.1]; exact .inr (.inr (.inr ⟨rfl, .inr rfl, hy⟩))
    cases ha : attrL l with
    | none => rw [ha] at h; simp at h
    | some z =>
      obtain ⟨z, r⟩ := z
      obtain ⟨n, v, rfl⟩ := attrL_is l z r ha
      rw [ha] at h
      simp only [] at h
      cases hb : attrsL k r with
      | none => rw [hb] at h; simp at h
      | some u =>
        obtain ⟨u, t⟩ := u
        rw [hb] at h
        simp only [Option.map_some, Option.some.injEq, Prod.mk.injEq] at h
        rw [← h.1]
        exact .inr (.inr (.inl ⟨rfl, rfl, ih r u t y hb hy⟩))
theorem nextL_wf (l : B) (x : List Pc) (q : B) (y : List Pc) (h : nextL l = some (x, q)) (hy : wf false y) : wf false (x ++ y) := by
  unfold nextL at h
  split at h
  · unfold commentL at h
    split at h; · simp at h
    split at h; · simp at h
    simp only [Option.some.injEq, Prod.mk.injEq] at h; rw [← h.1]; exact .inl ⟨rfl, .inl rfl, hy⟩
  split at h
  · unfold plainL at h
    split at h; · simp at h
    simp only [Option.some.injEq, Prod.mk.injEq] at h; rw [← h.1]; exact .inl ⟨rfl, .inr (.inl rfl), hy⟩
  split at h
  · unfold closingL at h
    split at h; · simp at h
    split at h; · simp at h
    simp only [Option.some.injEq, Prod.mk.injEq] at h; rw [← h.1]; exact .inl ⟨rfl, .inr (.inr rfl), hy⟩
  split at h
  · unfold tagL at h
    split at h; · simp at h
    cases hb : attrsL (l.length + 1) (l.drop (tEnd l)) with
    | none => rw [hb] at h; simp at h
    | some u =>
      obtain ⟨u, t⟩ := u
      rw [hb] at h
      simp only [Option.map_some, Option.some.injEq, Prod.mk.injEq] at h
      rw [← h.1]
      exact .inr (.inl ⟨rfl, rfl, attrsL_wf _ _ _ _ y hb hy⟩)
  · unfold textL at h
    cases hd : decode (Lib.cut l [60]).1 with
    | none => rw [hd] at h; simp at h
    | some v => rw [hd] at h; simp only [Option.map_some, Option.some.injEq, Prod.mk.injEq] at h; rw [← h.1]; exact .inl ⟨rfl, .inr (.inl rfl), hy⟩
theorem lxF_wf (k : Nat) : ∀ (l : B) (y : List Pc), lxF k l = some y → wf false y := by
  induction k with
  | zero => intro l y h; simp [lxF] at h
  | succ k ih =>
    intro l y h
    unfold lxF at h
    split at h
    · simp only [Option.some.injEq] at h; rw [← h]; rfl
    cases ha : nextL l with
    | none => rw [ha] at h; simp at h
    | some x =>
      obtain ⟨x, q⟩ := x
      rw [ha] at h
      simp only [] at h
      cases hb : lxF k q with
      | none => rw [hb] at h; simp at h
      | some z => rw [hb] at h; simp only [Option.map_some, Option.some.injEq] at h; rw [← h]; exact nextL_wf l x q z ha (ih q z hb)
theorem lx_wf (l : B) (y : List Pc) (h : lx l = some y) : wf false y := lxF_wf _ l y h

/-! how long pieces are -/
theorem entity_le (l : B) (h : (entity l).2 ≠ 0) : (entity l).1.length ≤ 4 ∧ 1 ≤ (entity l).2 ∧ (entity l).2 ≤ l.length := by
  unfold entity at *
  split at h; · simp at h
  split at h; · simp at h
  rename_i h1 h2
  rw [if_neg h1, if_neg h2]
  have h3 := cut_hi (l.drop 1) [59] (by simpa using h1)
  rw [List.length_drop] at h3
  simp only [List.length_cons, List.length_nil] at h3
  exact ⟨body_len _, by simp, by simp only []; omega⟩
theorem decodeF_le (k : Nat) : ∀ (l r : B), decodeF k l = some r → r.length ≤ 4 * l.length := by
  induction k with
  | zero => intro l r h; cases l <;> simp [decodeF] at h; rw [h]; simp
  | succ k ih =>
    intro l r h
    cases l with
    | nil => simp [decodeF] at h; rw [h]; simp
    | cons c l =>
      unfold decodeF at h
      split at h
      · simp only [Option.some.injEq] at h; rw [← h]; simp only [List.length_cons]; omega
      split at h
      · simp at h
      rename_i h0 h1
      generalize hi : (Lib.indexByte (c :: l) 38).toNat = i at *
      obtain ⟨e1, e2, e3⟩ := entity_le _ h1
      rw [List.length_drop] at e3
      cases hd : decodeF k ((c :: l).drop (i + (entity ((c :: l).drop i)).2)) with
      | none => rw [hd] at h; simp at h
      | some z =>
        rw [hd] at h
        simp only [Option.map_some, Option.some.injEq] at h
        have h5 := ih _ _ hd
        rw [List.length_drop] at h5
        rw [← h]
        simp only [List.length_append, List.length_take]
        omega
theorem decode_le (l r : B) (h : decode l = some r) : r.length ≤ 4 * l.length := decodeF_le _ l r h
/-- pieces no longer than so -/
def FitsP (n : Nat) (x : List Pc) : Prop := ∀ t ∈ x, t.name.length ≤ n ∧ t.value.length ≤ 4 * n
theorem FitsP.mono {n m : Nat} {x : List Pc} (h : FitsP n x) (hm : n ≤ m) : FitsP m x := fun t ht => by have := h t ht; omega
theorem FitsP.app {n : Nat} {x y : List Pc} (h : FitsP n x) (h2 : FitsP n y) : FitsP n (x ++ y) := fun t ht => (List.mem_append.1 ht).elim (h t) (h2 t)
theorem FitsP.one {n : Nat} {k : Int} {a b : B} (h : a.length ≤ n) (h2 : b.length ≤ 4 * n) : FitsP n [⟨k, a, b⟩] := fun t ht => by rw [List.mem_singleton.1 ht]; exact ⟨h, h2⟩
theorem take_le (l : B) (i j : Nat) : ((l.drop i).take j).length ≤ l.length := by rw [List.length_take, List.length_drop]; omega
theorem attrL_fits (l : B) (x : List Pc) (q : B) (h : attrL l = some (x, q)) : FitsP l.length x := by
  unfold attrL at h
  split at h; · simp at h
  split at h; · simp at h
  split at h; · simp at h
  split at h; · simp at h
  split at h; · simp at h
  split at h; · simp at h
  cases hd : decode (aRaw l).1 with
  | none => rw [hd] at h; simp at h
  | some v =>
    rw [hd] at h
    simp only [Option.map_some, Option.some.injEq, Prod.mk.injEq] at h
    rw [← h.1]
    have h1 := decode_le _ _ hd
    have h2 := cut_le (l.drop (aOpen l + 1)) ((l.drop (aOpen l)).take 1)
    rw [List.length_drop] at h2
    unfold aRaw at h1
    exact FitsP.one (take_le _ _ _) (by omega)
theorem attrsL_fits (k : Nat) : ∀ (l : B) (x : List Pc) (q : B), attrsL k l = some (x, q) → FitsP l.length x := by
  induction k with
  | zero => intro l x q h; simp [attrsL] at h
  | succ k ih =>
    intro l x q h
    unfold attrsL at h
    split at h
    · simp only [Option.some.injEq, Prod.mk.injEq] at h; rw [← h.1]; exact FitsP.one (by simp) (by simp)
    split at h
    · simp only [Option.some.injEq, Prod.mk.injEq] at h; rw [← h.1]; exact FitsP.one (by simp) (by simp)
    cases ha : attrL l with
    | none => rw [ha] at h; simp at h
    | some z =>
      obtain ⟨z, r⟩ := z
      have hlt := attrL_lt l z r ha
      rw [ha] at h
      simp only [] at h
      cases hb : attrsL k r with
      | none => rw [hb] at h; simp at h
      | some u =>
        obtain ⟨u, t⟩ := u
        rw [hb] at h
        simp only [Option.map_some, Option.some.injEq, Prod.mk.injEq] at h
        rw [← h.1]
        exact (attrL_fits l z r ha).app ((ih r u t hb).mono (by omega))
theorem nextL_fits (l : B) (x : List Pc) (q : B) (h : nextL l = some (x, q)) : FitsP l.length x := by
  unfold nextL at h
  split at h
  · unfold commentL at h
    split at h; · simp at h
    split at h; · simp at h
    simp only [Option.some.injEq, Prod.mk.injEq] at h; rw [← h.1]
    exact FitsP.one (by simp) (by have := take_le l 4 (Lib.index (l.drop 4) [45, 45]).toNat; omega)
  split at h
  · unfold plainL at h
    split at h; · simp at h
    simp only [Option.some.injEq, Prod.mk.injEq] at h; rw [← h.1]
    exact FitsP.one (by simp) (by have := cut_le (l.drop 9) [93, 93, 62]; rw [List.length_drop] at this; omega)
  split at h
  · unfold closingL at h
    split at h; · simp at h
    split at h; · simp at h
    simp only [Option.some.injEq, Prod.mk.injEq] at h; rw [← h.1]
    exact FitsP.one (take_le _ _ _) (by simp)
  split at h
  · unfold tagL at h
    split at h; · simp at h
    cases hb : attrsL (l.length + 1) (l.drop (tEnd l)) with
    | none => rw [hb] at h; simp at h
    | some u =>
      obtain ⟨u, t⟩ := u
      rw [hb] at h
      simp only [Option.map_some, Option.some.injEq, Prod.mk.injEq] at h
      rw [← h.1]
      have h2 := attrsL_fits _ _ _ _ hb
      exact (FitsP.one (take_le _ _ _) (by simp)).app (h2.mono (by rw [List.length_drop]; omega))
  · unfold textL at h
    cases hd : decode (Lib.cut l [60]).1 with
    | none => rw [hd] at h; simp at h
    | some v =>
      rw [hd] at h; simp only [Option.map_some, Option.some.injEq, Prod.mk.injEq] at h; rw [← h.1]
      exact FitsP.one (by simp) (by have := decode_le _ _ hd; have := cut_le l [60]; omega)
theorem nextL_len (l : B) (x : List Pc) (q : B) (hl : l ≠ []) (h : nextL l = some (x, q)) : x.length + q.length ≤ l.length := by
  have h1 := next_L l 0 (by omega)
  rw [List.drop_zero, h] at h1
  cases ha : next l 0 with
  | none => rw [ha] at h1; simp at h1
  | some y =>
    obtain ⟨t, r⟩ := y
    rw [ha] at h1
    simp only [Option.map_some, strip, Option.some.injEq, Prod.mk.injEq] at h1
    have hlt : 0 < l.length := List.length_pos_iff.2 hl
    obtain ⟨h2, h3, h4⟩ := next_hi l 0 r t hlt ha
    rw [← h1.2, ← h1.1, List.length_drop, List.length_map]; omega
theorem lxF_fits (k : Nat) : ∀ (l : B) (y : List Pc), lxF k l = some y → FitsP l.length y ∧ y.length ≤ l.length := by
  induction k with
  | zero => intro l y h; simp [lxF] at h
  | succ k ih =>
    intro l y h
    unfold lxF at h
    split at h
    · simp only [Option.some.injEq] at h; rw [← h]; exact ⟨fun t ht => by simp at ht, by simp⟩
    rename_i hl
    cases ha : nextL l with
    | none => rw [ha] at h; simp at h
    | some x =>
      obtain ⟨x, q⟩ := x
      rw [ha] at h
      simp only [] at h
      cases hb : lxF k q with
      | none => rw [hb] at h; simp at h
      | some z =>
        rw [hb] at h; simp only [Option.map_some, Option.some.injEq] at h; rw [← h]
        have h1 := nextL_len l x q hl ha
        obtain ⟨h2, h3⟩ := ih q z hb
        exact ⟨(nextL_fits l x q ha).app (h2.mono (by omega)), by rw [List.length_append]; omega⟩
theorem lx_fits (l : B) (y : List Pc) (h : lx l = some y) : FitsP l.length y ∧ y.length ≤ l.length := lxF_fits _ l y h

/-- how long all values are together -/
def vals : List Pc → Nat
  | [] => 0
  | t :: l => t.value.length + vals l
theorem vals_app (a b : List Pc) : vals (a ++ b) = vals a + vals b := by
  induction a with
  | nil => simp [vals]
  | cons t a ih => simp only [List.cons_append, vals, ih]; omega
theorem attrL_vals (l : B) (x : List Pc) (q : B) (h : attrL l = some (x, q)) : vals x + 4 * q.length ≤ 4 * l.length := by
  unfold attrL at h
  split at h; · simp at h
  split at h; · simp at h
  split at h; · simp at h
  split at h; · simp at h
  split at h; · simp at h
  split at h; · simp at h
  cases hd : decode (aRaw l).1 with
  | none => rw [hd] at h; simp at h
  | some v =>
    rw [hd] at h
    simp only [Option.map_some, Option.some.injEq, Prod.mk.injEq] at h
    rw [← h.1, ← h.2]
    have h1 := decode_le _ _ hd
    have h2 := cut_le (l.drop (aOpen l + 1)) ((l.drop (aOpen l)).take 1)
    rw [List.length_drop] at h2
    unfold aRaw at h1 ⊢
    simp only [vals, List.length_drop]
    omega
theorem attrsL_vals (k : Nat) : ∀ (l : B) (x : List Pc) (q : B), attrsL k l = some (x, q) → vals x + 4 * q.length ≤ 4 * l.length := by
  induction k with
  | zero => intro l x q h; simp [attrsL] at h
  | succ k ih =>
    intro l x q h
    unfold attrsL at h
    split at h
    · simp only [Option.some.injEq, Prod.mk.injEq] at h; rw [← h.1, ← h.2]; simp only [vals, List.length_drop, List.length_nil]; omega
    split at h
    · simp only [Option.some.injEq, Prod.mk.injEq] at h; rw [← h.1, ← h.2]; simp only [vals, List.length_drop, List.length_nil]; omega
    cases ha : attrL l with
    | none => rw [ha] at h; simp at h
    | some z =>
      obtain ⟨z, r⟩ := z
      rw [ha] at h
      simp only [] at h
      cases hb : attrsL k r with
      | none => rw [hb] at h; simp at h
      | some u =>
        obtain ⟨u, t⟩ := u
        rw [hb] at h
        simp only [Option.map_some, Option.some.injEq, Prod.mk.injEq] at h
        have h1 := attrL_vals l z r ha
        have h2 := ih r u t hb
        rw [← h.1, ← h.2, vals_app]; omega
theorem nextL_vals (l : B) (x : List Pc) (q : B) (h : nextL l = some (x, q)) : vals x + 4 * q.length ≤ 4 * l.length := by
  unfold nextL at h
  split at h
  · unfold commentL at h
    split at h; · simp at h
    split at h; · simp at h
    simp only [Option.some.injEq, Prod.mk.injEq] at h; rw [← h.1, ← h.2]
    simp only [vals, List.length_drop, List.length_take]; omega
  split at h
  · unfold plainL at h
    split at h; · simp at h
    simp only [Option.some.injEq, Prod.mk.injEq] at h; rw [← h.1, ← h.2]
    have := cut_le (l.drop 9) [93, 93, 62]
    rw [List.length_drop] at this
    simp only [vals, List.length_drop]; omega
  split at h
  · unfold closingL at h
    split at h; · simp at h
    split at h; · simp at h
    simp only [Option.some.injEq, Prod.mk.injEq] at h; rw [← h.1, ← h.2]
    simp only [vals, List.length_drop, List.length_nil]; omega
  split at h
  · unfold tagL at h
    split at h; · simp at h
    cases hb : attrsL (l.length + 1) (l.drop (tEnd l)) with
    | none => rw [hb] at h; simp at h
    | some u =>
      obtain ⟨u, t⟩ := u
      rw [hb] at h
      simp only [Option.map_some, Option.some.injEq, Prod.mk.injEq] at h
      have h2 := attrsL_vals _ _ _ _ hb
      rw [← h.1, ← h.2]
      rw [List.length_drop] at h2
      simp only [vals, List.length_nil]; omega
  · unfold textL at h
    cases hd : decode (Lib.cut l [60]).1 with
    | none => rw [hd] at h; simp at h
    | some v =>
      rw [hd] at h; simp only [Option.map_some, Option.some.injEq, Prod.mk.injEq] at h; rw [← h.1, ← h.2]
      have h1 := decode_le _ _ hd
      have h2 := cut_le l [60]
      simp only [vals, List.length_drop]; omega
theorem lxF_vals (k : Nat) : ∀ (l : B) (y : List Pc), lxF k l = some y → vals y ≤ 4 * l.length := by
  induction k with
  | zero => intro l y h; simp [lxF] at h
  | succ k ih =>
    intro l y h
    unfold lxF at h
    split at h
    · simp only [Option.some.injEq] at h; rw [← h]; simp [vals]
    cases ha : nextL l with
    | none => rw [ha] at h; simp at h
    | some x =>
      obtain ⟨x, q⟩ := x
      rw [ha] at h
      simp only [] at h
      cases hb : lxF k q with
      | none => rw [hb] at h; simp at h
      | some z =>
        rw [hb] at h; simp only [Option.map_some, Option.some.injEq] at h; rw [← h, vals_app]
        have h1 := nextL_vals l x q ha
        have h2 := ih q z hb
        omega
theorem lx_vals (l : B) (y : List Pc) (h : lx l = some y) : vals y ≤ 4 * l.length := lxF_vals _ l y h

/-! the builder's state stays in order -/
/-- in order, behind k pieces, ahead of ts, of a document no longer than n; tag: within a tag -/
structure Inv (n : Nat) (tag : Bool) (k : Nat) (ts : List Pc) (s : St) : Prop where
  names : s.names.length = s.nodes.length
  few : s.nodes.length ≤ 2 * k
  low : s.opn.length ≤ k
  opn : ∀ i ∈ s.opn, 0 ≤ i ∧ i < s.nodes.length
  tag : tag = true → s.opn ≠ []
  text : s.text.length + vals ts ≤ 4 * n
  name : ∀ x ∈ s.names, x.length ≤ n
  value : ∀ x ∈ s.nodes, x.value.length ≤ 4 * n
theorem top_mem (s : St) (h : s.opn ≠ []) : s.top ∈ s.opn := by unfold St.top; rw [List.getLast?_eq_some_getLast h]; exact List.getLast_mem h
theorem top_none (s : St) (h : s.opn = []) : s.top = -1 := by unfold St.top; rw [h]; rfl
theorem Inv.top {n k : Nat} {b : Bool} {ts : List Pc} {s : St} (h : Inv n b k ts s) : -1 ≤ s.top ∧ s.top < s.nodes.length := by
  by_cases h0 : s.opn = []
  · rw [top_none s h0]; omega
  · have := h.opn _ (top_mem s h0); omega
theorem Inv.top_pos {n k : Nat} {b : Bool} {ts : List Pc} {s : St} (h : Inv n b k ts s) (h0 : s.opn ≠ []) : 0 ≤ s.top := (h.opn _ (top_mem s h0)).1
theorem Inv.new (n : Nat) (ts : List Pc) (h : vals ts ≤ 4 * n) : Inv n false 0 ts St.new := ⟨rfl, by simp [St.new], by simp [St.new], by simp [St.new], by simp, by simpa [St.new] using h, by simp [St.new], by simp [St.new]⟩
/-- behind flush: one node more at most -/
structure Mid (n : Nat) (k : Nat) (s : St) : Prop where
  names : s.names.length = s.nodes.length
  few : s.nodes.length ≤ 2 * k + 1
  low : s.opn.length ≤ k
  opn : ∀ i ∈ s.opn, 0 ≤ i ∧ i < s.nodes.length
  text : s.text = []
  name : ∀ x ∈ s.names, x.length ≤ n
  value : ∀ x ∈ s.nodes, x.value.length ≤ 4 * n
theorem Inv.flush {n k : Nat} {b : Bool} {ts : List Pc} {s : St} (h : Inv n b k ts s) : Mid n k s.flush ∧ s.flush.opn = s.opn := by
  have ht := h.text
  unfold St.flush
  split
  · exact ⟨⟨h.names, by have := h.few; simp only []; omega, h.low, h.opn, rfl, h.name, h.value⟩, rfl⟩
  split
  · exact ⟨⟨h.names, by have := h.few; simp only []; omega, h.low, h.opn, rfl, h.name, h.value⟩, rfl⟩
  · refine ⟨⟨by simp [St.put, h.names], by have := h.few; simp [St.put]; omega, h.low, ?_, rfl, ?_, ?_⟩, rfl⟩
    · intro i hi; have := h.opn i hi; simp [St.put]; omega
    · intro x hx; simp [St.put] at hx; rcases hx with hx | rfl; exact h.name x hx; simp
    · intro x hx; simp [St.put] at hx; rcases hx with hx | rfl; exact h.value x hx; simp only []; omega
theorem Inv.step {n k : Nat} {b : Bool} {s : St} {t : Pc} {ts : List Pc} (h : Inv n b k (t :: ts) s) (hw : wf b (t :: ts)) (ht : t.name.length ≤ n) : ∃ b', wf b' ts ∧ Inv n b' (k + 1) ts (s.stepP t) := by
  have hv := h.text
  simp only [vals] at hv
  have up : ∀ b', (b' = true → s.opn ≠ []) → Inv n b' (k + 1) ts s := fun b' h' => ⟨h.names, by have := h.few; omega, by have := h.low; omega, h.opn, h', by omega, h.name, h.value⟩
  obtain ⟨hm, ho⟩ := h.flush
  have hend : ∀ x, Inv n false (k + 1) ts (s.end_ x) := by
    intro x
    unfold St.end_
    simp only []
    split
    · exact ⟨hm.names, by have := hm.few; simp only []; omega, by have := hm.low; simp only []; omega, hm.opn, by simp, by simp only []; rw [hm.text]; simp only [List.length_nil]; omega, hm.name, hm.value⟩
    · refine ⟨hm.names, by have := hm.few; simp only []; omega, by have := hm.low; simp only [List.length_dropLast]; omega, fun i hi => hm.opn i (List.dropLast_subset _ hi), by simp, by simp only []; rw [hm.text]; simp only [List.length_nil]; omega, hm.name, hm.value⟩
  rcases hw with ⟨rfl, hk1, hw⟩ | ⟨rfl, hk1, hw⟩ | ⟨rfl, hk1, hw⟩ | ⟨rfl, hk1, hw⟩
  · refine ⟨false, hw, ?_⟩
    unfold St.stepP
    rcases hk1 with hk1 | hk1 | hk1
    · rw [if_pos hk1]; exact up _ (by simp)
    · rw [if_neg (by omega), if_pos hk1]
      have := up false (by simp)
      exact ⟨this.names, this.few, this.low, this.opn, by simp, by simp only [List.length_append]; omega, this.name, this.value⟩
    · rw [if_neg (by omega), if_neg (by omega), if_neg (by omega), if_neg (by omega), if_neg (by omega), if_pos hk1]; exact hend _
  · refine ⟨true, hw, ?_⟩
    unfold St.stepP
    rw [if_neg (by omega), if_neg (by omega), if_pos hk1]
    unfold St.begin
    simp only [St.put]
    refine ⟨by simp [hm.names], by have := hm.few; simp; omega, by have := hm.low; simp; omega, ?_, by simp, by simp only []; rw [hm.text]; simp only [List.length_nil]; omega, ?_, ?_⟩
    · intro i hi
      simp only [List.mem_append, List.mem_singleton, List.length_append, List.length_cons, List.length_nil] at hi ⊢
      rcases hi with hi | hi
      · have := hm.opn i hi; omega
      · omega
    · intro x hx; simp at hx; rcases hx with hx | rfl; exact hm.name x hx; exact ht
    · intro x hx; simp at hx; rcases hx with hx | rfl; exact hm.value x hx; simp
  · refine ⟨true, hw, ?_⟩
    unfold St.stepP
    rw [if_neg (by omega), if_neg (by omega), if_neg (by omega), if_pos hk1]
    unfold St.attr
    simp only [St.put]
    refine ⟨by simp [h.names], by have := h.few; simp; omega, by have := h.low; simp only []; omega, ?_, fun _ => h.tag rfl, by simp only []; omega, ?_, ?_⟩
    · intro i hi; have := h.opn i hi; simp; omega
    · intro x hx; simp at hx; rcases hx with hx | rfl; exact h.name x hx; exact ht
    · intro x hx; simp at hx; rcases hx with hx | rfl; exact h.value x hx; simp only []; omega
  · refine ⟨false, hw, ?_⟩
    unfold St.stepP
    rcases hk1 with hk1 | hk1
    · rw [if_neg (by omega), if_neg (by omega), if_neg (by omega), if_neg (by omega), if_neg (by omega), if_neg (by omega)]; exact up _ (by simp)
    · rw [if_neg (by omega), if_neg (by omega), if_neg (by omega), if_neg (by omega), if_pos hk1]; exact hend _
end S
end Go.Proofs.Ytpfalkdkiffipaa
