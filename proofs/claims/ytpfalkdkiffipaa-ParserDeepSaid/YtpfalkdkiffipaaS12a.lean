/- Plain facts on the lexer's words: how far the steps go. -/
import Derived.Test.YtpfalkdkiffipaaS12
namespace Go.Proofs.Ytpfalkdkiffipaa
namespace S
theorem nameEnd_ge (d : B) (i : Nat) : i ≤ nameEnd d i := by unfold nameEnd; omega
theorem skip_ge (d : B) (i : Nat) : i ≤ skip d i := by unfold skip; omega
theorem nameEnd_hi (d : B) (i : Nat) (h : i ≤ d.length) : nameEnd d i ≤ d.length := by
  unfold nameEnd; have := nameLen_le (d.drop i); rw [List.length_drop] at this; omega
theorem skip_hi (d : B) (i : Nat) (h : i ≤ d.length) : skip d i ≤ d.length := by
  unfold skip skipLen; have := runLen_le isSpace (d.drop i); rw [List.length_drop] at this; omega
theorem prefix_lt (d p : B) (i : Nat) (hp : p ≠ []) (h : Lib.hasPrefix (d.drop i) p = true) : i + p.length ≤ d.length := by
  unfold Lib.hasPrefix at h
  have h2 := (List.isPrefixOf_iff_prefix.1 h).length_le
  rw [List.length_drop] at h2
  have : 0 < p.length := by cases p with | nil => exact absurd rfl hp | cons => simp
  omega
theorem cut_hi (l p : B) (h : (Lib.cut l p).2.2 = true) : (Lib.cut l p).1.length + p.length ≤ l.length := by
  unfold Lib.cut at *
  split at h
  · rename_i h0
    have := Lib.index_room l p h0
    rw [if_pos h0]; simp only [List.length_take]; omega
  · simp at h
theorem cut_le (l p : B) : (Lib.cut l p).1.length ≤ l.length := by
  unfold Lib.cut; split <;> simp <;> omega
theorem attr_hi (d : B) (p q : Nat) (l : List Tok) (_hp : p ≤ d.length) (h : attr d p = some (l, q)) : p < q ∧ q ≤ d.length ∧ l.length = 1 := by
  unfold attr at h
  split at h; · simp at h
  split at h; · simp at h
  split at h; · simp at h
  split at h; · simp at h
  split at h; · simp at h
  split at h; · simp at h
  rename_i h1 h2 h3 h4 h5 h6
  cases hd : decode (attrRaw d p).1 with
  | none => rw [hd] at h; simp at h
  | some v =>
    rw [hd] at h
    simp only [Option.map_some, Option.some.injEq, Prod.mk.injEq] at h
    obtain ⟨rfl, rfl⟩ := h
    have a1 : p ≤ attrFrom d p := skip_ge _ _
    have a2 : attrFrom d p ≤ attrEnd d p := nameEnd_ge _ _
    have a3 : attrEnd d p ≤ attrEq d p := skip_ge _ _
    have a4 : attrEq d p + 1 ≤ attrOpen d p := skip_ge _ _
    have hop : attrOpen d p < d.length := by
      rcases Nat.lt_or_ge (attrOpen d p) d.length with h | h
      · exact h
      · rw [List.drop_eq_nil_of_le h] at h4; exact absurd h4 (by decide)
    have a5 := cut_hi (d.drop (attrOpen d p + 1)) ((d.drop (attrOpen d p)).take 1) (by simpa [attrRaw] using h5)
    have a6 : ((d.drop (attrOpen d p)).take 1).length = 1 := by rw [List.length_take, List.length_drop]; omega
    rw [a6, List.length_drop] at a5
    refine ⟨by omega, ?_, rfl⟩
    unfold attrRaw; omega
theorem comment_hi (d : B) (p q : Nat) (l : List Tok) (hp : p + 4 ≤ d.length) (h : comment d p = some (l, q)) : p < q ∧ q ≤ d.length ∧ l.length = 1 := by
  unfold comment at h
  split at h; · simp at h
  split at h; · simp at h
  rename_i h1 h2
  simp only [Option.some.injEq, Prod.mk.injEq] at h
  obtain ⟨rfl, rfl⟩ := h
  have := prefix_lt (d.drop (p + 4)) [45, 45, 62] _ (by simp) (by simpa using h2)
  rw [List.length_drop] at this
  simp only [List.length_cons, List.length_nil] at this
  exact ⟨by omega, by omega, rfl⟩
theorem plain_hi (d : B) (p q : Nat) (l : List Tok) (hp : p + 9 ≤ d.length) (h : plain d p = some (l, q)) : p < q ∧ q ≤ d.length ∧ l.length = 1 := by
  unfold plain at h
  split at h; · simp at h
  rename_i h1
  simp only [Option.some.injEq, Prod.mk.injEq] at h
  obtain ⟨rfl, rfl⟩ := h
  have := cut_hi (d.drop (p + 9)) [93, 93, 62] (by simpa using h1)
  rw [List.length_drop] at this
  simp only [List.length_cons, List.length_nil] at this
  exact ⟨by omega, by omega, rfl⟩
theorem closing_hi (d : B) (p q : Nat) (l : List Tok) (_hp : p + 2 ≤ d.length) (h : closing d p = some (l, q)) : p < q ∧ q ≤ d.length ∧ l.length = 1 := by
  unfold closing at h
  split at h; · simp at h
  split at h; · simp at h
  rename_i h1 h2
  simp only [Option.some.injEq, Prod.mk.injEq] at h
  obtain ⟨rfl, rfl⟩ := h
  have := prefix_lt d [62] _ (by simp) (by simpa using h2)
  have a1 := nameEnd_ge d (p + 2)
  have a2 := skip_ge d (nameEnd d (p + 2))
  simp only [List.length_cons, List.length_nil] at this
  exact ⟨by omega, by omega, rfl⟩
theorem cut_pos (l : B) (c : UInt8) (h : l ≠ []) (h2 : Lib.hasPrefix l [c] = false) : 0 < (Lib.cut l [c]).1.length := by
  cases l with
  | nil => exact absurd rfl h
  | cons a l =>
    have h3 : ([c] : B).isPrefixOf (a :: l) = false := h2
    unfold Lib.cut
    have e : Lib.index (a :: l) [c] = if Lib.index l [c] == -1 then -1 else Lib.index l [c] + 1 := by rw [Lib.index, if_neg (by rw [h3]; simp)]
    split
    · rename_i h0
      rw [e] at h0 ⊢
      split at h0
      · omega
      · rename_i h5
        rw [if_neg h5]
        rcases Lib.index_spec l [c] with ⟨h6, _⟩ | ⟨i, h6, _⟩
        · rw [h6] at h5; simp at h5
        · rw [h6]; simp only [List.length_take, List.length_cons]; omega
    · simp
theorem text_hi (d : B) (p q : Nat) (l : List Tok) (hp : p < d.length) (h2 : Lib.hasPrefix (d.drop p) [60] = false) (h : text d p = some (l, q)) : p < q ∧ q ≤ d.length ∧ l.length = 1 := by
  unfold text at h
  cases hd : decode (Lib.cut (d.drop p) [60]).1 with
  | none => rw [hd] at h; simp at h
  | some v =>
    rw [hd] at h
    simp only [Option.map_some, Option.some.injEq, Prod.mk.injEq] at h
    obtain ⟨rfl, rfl⟩ := h
    have h3 := cut_pos (d.drop p) 60 (by intro h; have := congrArg List.length h; simp at this; omega) h2
    have h4 := cut_le (d.drop p) [60]
    rw [List.length_drop] at h4
    exact ⟨by omega, by omega, rfl⟩
theorem attrsF_hi (k : Nat) (d : B) : ∀ (p q : Nat) (l : List Tok), p ≤ d.length → attrsF k d p = some (l, q) → p < q ∧ q ≤ d.length ∧ l.length ≤ q - p := by
  induction k with
  | zero => intro p q l _ h; simp [attrsF] at h
  | succ k ih =>
    intro p q l hp h
    have hs := skip_ge d p
    unfold attrsF at h
    split at h
    · rename_i h1
      have := prefix_lt d [62] _ (by simp) h1
      simp only [Option.some.injEq, Prod.mk.injEq, List.length_cons, List.length_nil] at *
      obtain ⟨rfl, rfl⟩ := h
      exact ⟨by omega, by omega, by simp; omega⟩
    · split at h
      · rename_i h1
        have := prefix_lt d [47, 62] _ (by simp) h1
        simp only [Option.some.injEq, Prod.mk.injEq, List.length_cons, List.length_nil] at *
        obtain ⟨rfl, rfl⟩ := h
        exact ⟨by omega, by omega, by simp; omega⟩
      · split at h
        · simp at h
        · rename_i l1 q1 h1
          obtain ⟨b1, b2, b3⟩ := attr_hi d p q1 l1 hp h1
          cases hx : attrsF k d q1 with
          | none => rw [hx] at h; simp at h
          | some x =>
            obtain ⟨l2, q2⟩ := x
            rw [hx] at h
            simp only [Option.map_some, Option.some.injEq, Prod.mk.injEq] at h
            obtain ⟨rfl, rfl⟩ := h
            obtain ⟨c1, c2, c3⟩ := ih q1 q2 l2 b2 hx
            refine ⟨by omega, c2, ?_⟩
            rw [List.length_append]; omega
theorem tag_hi (d : B) (p q : Nat) (l : List Tok) (hp : p + 1 ≤ d.length) (h : tag d p = some (l, q)) : p < q ∧ q ≤ d.length ∧ l.length ≤ q - p := by
  unfold tag at h
  split at h; · simp at h
  rename_i h1
  have a1 := nameEnd_ge d (p + 1)
  have a2 := nameEnd_hi d (p + 1) hp
  cases hx : attrsF (d.length + 1) d (nameEnd d (p + 1)) with
  | none => rw [hx] at h; simp at h
  | some x =>
    obtain ⟨l2, q2⟩ := x
    rw [hx] at h
    simp only [Option.map_some, Option.some.injEq, Prod.mk.injEq] at h
    obtain ⟨rfl, rfl⟩ := h
    obtain ⟨c1, c2, c3⟩ := attrsF_hi _ d _ _ _ a2 hx
    refine ⟨by omega, c2, ?_⟩
    rw [List.length_cons]; omega
theorem next_hi (d : B) (p q : Nat) (l : List Tok) (hp : p < d.length) (h : next d p = some (l, q)) : p < q ∧ q ≤ d.length ∧ l.length ≤ q - p := by
  unfold next at h
  split at h
  · rename_i h1
    have := prefix_lt d _ p (by simp) h1
    obtain ⟨a, b, c⟩ := comment_hi d p q l (by simpa using this) h
    exact ⟨a, b, by omega⟩
  split at h
  · rename_i h1
    have := prefix_lt d _ p (by simp) h1
    obtain ⟨a, b, c⟩ := plain_hi d p q l (by simpa using this) h
    exact ⟨a, b, by omega⟩
  split at h
  · rename_i h1
    have := prefix_lt d _ p (by simp) h1
    obtain ⟨a, b, c⟩ := closing_hi d p q l (by simpa using this) h
    exact ⟨a, b, by omega⟩
  split at h
  · rename_i h1
    exact tag_hi d p q l (by omega) h
  · rename_i h1
    obtain ⟨a, b, c⟩ := text_hi d p q l hp (by simpa using h1) h
    exact ⟨a, b, by omega⟩
end S
end Go.Proofs.Ytpfalkdkiffipaa
