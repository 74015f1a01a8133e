/- Plain facts: characters side by side, escaped text, what is read of it. -/
import Derived.Test.YtpfalkdkiffipaaS12a
namespace Go.Proofs.Ytpfalkdkiffipaa
namespace S
theorem rune_cons' (c : UInt8) (l : B) : rune (c :: l) = if runeLen c = 0 then (-1, 0) else if l.length + 1 < runeLen c then (-1, 0) else
    if point (restCode (l.take (runeLen c - 1)) (c.toNat - lead (runeLen c))) && decide (sizeOf (restCode (l.take (runeLen c - 1)) (c.toNat - lead (runeLen c))) = runeLen c) then (restCode (l.take (runeLen c - 1)) (c.toNat - lead (runeLen c)), runeLen c) else (-1, 0) := rfl
theorem rune_len (c : UInt8) (l : B) (h : (rune (c :: l)).2 ≠ 0) : (rune (c :: l)).2 = runeLen c ∧ runeLen c ≠ 0 ∧ runeLen c ≤ l.length + 1 := by
  rw [rune_cons'] at h ⊢
  split at h; · simp at h
  split at h; · simp at h
  split at h
  · rename_i h1 h2 h3; rw [if_neg h1, if_neg h2, if_pos h3]; exact ⟨rfl, h1, by omega⟩
  · simp at h
theorem rune_append (l b : B) (h : (rune l).2 ≠ 0) : rune (l ++ b) = rune l := by
  cases l with
  | nil => simp [rune] at h
  | cons c l =>
    obtain ⟨_, h1, h2⟩ := rune_len c l h
    rw [List.cons_append, rune_cons', rune_cons', List.take_append_of_le_length (by omega)]
    simp only [if_neg h1]
    rw [if_neg (show ¬ ((l ++ b).length + 1 < runeLen c) from by rw [List.length_append]; omega), if_neg (show ¬ (l.length + 1 < runeLen c) from by omega)]
theorem rune_take (c : UInt8) (l : B) (h : (rune (c :: l)).2 ≠ 0) : rune ((c :: l).take (rune (c :: l)).2) = rune (c :: l) := by
  obtain ⟨h1, h2, h3⟩ := rune_len c l h
  rw [h1]
  obtain ⟨m, hm⟩ : ∃ m, runeLen c = m + 1 := ⟨runeLen c - 1, by omega⟩
  have hl : (l.take m).length = m := by rw [List.length_take]; omega
  rw [hm, List.take_succ_cons, rune_cons', rune_cons', hm]
  simp only [Nat.add_sub_cancel, List.take_take, Nat.min_self]
  simp only [if_neg (show ¬ (m + 1 = 0) from by omega)]
  rw [if_neg (show ¬ ((l.take m).length + 1 < m + 1) from by omega), if_neg (show ¬ (l.length + 1 < m + 1) from by omega)]
theorem validF_cons (k : Nat) (l : B) (h : l ≠ []) : validF (k + 1) l = if (rune l).2 = 0 || !allowed (rune l).1 then false else validF k (l.drop (rune l).2) := by
  cases l with
  | nil => exact absurd rfl h
  | cons c l => rfl
theorem validF_fuel (k : Nat) : ∀ (j : Nat) (l : B), l.length ≤ k → l.length ≤ j → validF k l = validF j l := by
  induction k with
  | zero => intro j l hk _; have : l = [] := List.eq_nil_of_length_eq_zero (by omega); subst this; cases j <;> rfl
  | succ k ih =>
    intro j l hk hj
    by_cases hl : l = []
    · subst hl; cases j <;> rfl
    · obtain ⟨j, rfl⟩ : ∃ m, j = m + 1 := ⟨j - 1, by cases l with | nil => exact absurd rfl hl | cons => simp at hj; omega⟩
      rw [validF_cons _ _ hl, validF_cons _ _ hl]
      by_cases h0 : (rune l).2 = 0
      · simp [h0]
      · split
        · rfl
        · exact ih _ _ (by rw [List.length_drop]; omega) (by rw [List.length_drop]; omega)
theorem valid_cons (l : B) (h : l ≠ []) : valid l = if (rune l).2 = 0 || !allowed (rune l).1 then false else valid (l.drop (rune l).2) := by
  unfold valid
  obtain ⟨m, hm⟩ : ∃ m, l.length = m + 1 := ⟨l.length - 1, by cases l with | nil => exact absurd rfl h | cons => simp⟩
  rw [hm, validF_cons _ _ h]
  by_cases h0 : (rune l).2 = 0
  · simp [h0]
  · split
    · rfl
    · exact validF_fuel _ _ _ (by rw [List.length_drop]; omega) (by omega)
theorem valid_nil : valid [] = true := rfl
theorem valid_append (n : Nat) : ∀ (a b : B), a.length ≤ n → valid a = true → valid (a ++ b) = valid b := by
  induction n with
  | zero => intro a b hn _; have : a = [] := List.eq_nil_of_length_eq_zero (by omega); subst this; rfl
  | succ n ih =>
    intro a b hn ha
    by_cases hl : a = []
    · subst hl; rfl
    · rw [valid_cons a hl] at ha
      split at ha
      · simp at ha
      · rename_i h1
        have h0 : (rune a).2 ≠ 0 := by intro h; simp [h] at h1
        rw [valid_cons (a ++ b) (by simp [hl]), rune_append a b h0, if_neg h1, List.drop_append_of_le_length (rune_le a)]
        exact ih _ _ (by rw [List.length_drop]; omega) ha
theorem valid_both {a b : B} (ha : valid a = true) (hb : valid b = true) : valid (a ++ b) = true := by rw [valid_append _ a b (Nat.le_refl _) ha, hb]
/-- a list of plain bytes -/
def plainB (l : B) : Bool := l.all fun c => decide (c.toNat < 128) && allowed c.toNat
theorem rune_plain (c : UInt8) (l : B) (h : c.toNat < 128) : rune (c :: l) = ((c.toNat : Int), 1) := by
  have hr : runeLen c = 1 := by unfold runeLen; (repeat' split) <;> omega
  have hp : point (c.toNat : Int) = true := by unfold point; simp; omega
  have hs : sizeOf (c.toNat : Int) = 1 := by unfold sizeOf; rw [if_pos (by omega)]
  rw [rune_cons', hr, if_neg (by omega), if_neg (by omega), show List.take (1 - 1) l = [] from by simp, restCode]
  have hl : lead ((1 : Nat) : Int) = 0 := by decide
  rw [hl, Int.sub_zero, hp, hs]; rfl
theorem valid_plain (l : B) (h : plainB l = true) : valid l = true := by
  induction l with
  | nil => rfl
  | cons c l ih =>
    unfold plainB at *
    simp only [List.all_cons, Bool.and_eq_true, decide_eq_true_eq] at h
    rw [valid_cons _ (by simp), rune_plain c l h.1.1, if_neg (by simp [h.1.2])]
    exact ih (by simpa using h.2)
theorem escape_append (a b : B) : escape (a ++ b) = escape a ++ escape b := by simp [escape]
theorem escape_cons (c : UInt8) (l : B) : escape (c :: l) = esc1 c ++ escape l := by simp [escape]
theorem escape_high (l : B) (h : ∀ c ∈ l, 128 ≤ c.toNat) : escape l = l := by
  induction l with
  | nil => rfl
  | cons c l ih =>
    have hc := h c (by simp)
    rw [escape_cons, ih fun x hx => h x (by simp [hx])]
    unfold esc1
    rw [if_neg (by rintro rfl; simp at hc), if_neg (by rintro rfl; simp at hc), if_neg (by rintro rfl; simp at hc), if_neg (by rintro rfl; simp at hc)]
    rfl
theorem restCode_high : ∀ (l : B) (n : Int), restCode l n ≠ -1 → ∀ c ∈ l, 128 ≤ c.toNat
  | [], _, _, c, hc => by simp at hc
  | x :: l, n, h, c, hc => by
    unfold restCode at h
    split at h
    · rename_i hx
      rcases List.mem_cons.1 hc with rfl | hc
      · exact hx.1
      · exact restCode_high l _ h c hc
    · exact absurd rfl h
theorem rune_high (c : UInt8) (l : B) (h : (rune (c :: l)).2 ≠ 0) (hc : 128 ≤ c.toNat) : ∀ x ∈ (c :: l).take (rune (c :: l)).2, 128 ≤ x.toNat := by
  obtain ⟨h1, h2, h3⟩ := rune_len c l h
  rw [h1]
  have hne : restCode (l.take (runeLen c - 1)) (c.toNat - lead (runeLen c)) ≠ -1 := by
    intro hh
    rw [rune_cons', if_neg h2, if_neg (by omega), hh] at h
    have : point (-1) = false := by decide
    rw [this] at h; simp at h
  obtain ⟨m, hm⟩ : ∃ m, runeLen c = m + 1 := ⟨runeLen c - 1, by omega⟩
  rw [hm] at hne ⊢
  intro x hx
  rw [List.take_succ_cons] at hx
  rcases List.mem_cons.1 hx with rfl | hx
  · exact hc
  · exact restCode_high _ _ hne x (by simpa using hx)
theorem valid_esc1 (c : UInt8) (h : c.toNat < 128) (ha : allowed c.toNat = true) : valid (esc1 c) = true := by
  apply valid_plain
  unfold esc1 plainB
  (repeat' split) <;> first | decide | simp [h, ha]
theorem valid_escape (n : Nat) : ∀ (l : B), l.length ≤ n → valid l = true → valid (escape l) = true := by
  induction n with
  | zero => intro l hn _; have : l = [] := List.eq_nil_of_length_eq_zero (by omega); subst this; rfl
  | succ n ih =>
    intro l hn hv
    cases l with
    | nil => rfl
    | cons c l =>
      have hv0 := hv
      rw [valid_cons _ (by simp)] at hv
      split at hv
      · simp at hv
      · rename_i h1
        have h0 : (rune (c :: l)).2 ≠ 0 := by intro h; simp [h] at h1
        have ha : allowed (rune (c :: l)).1 = true := by cases h : allowed (rune (c :: l)).1 <;> simp_all
        by_cases hc : c.toNat < 128
        · rw [rune_plain c l hc] at hv ha
          rw [escape_cons]
          exact valid_both (valid_esc1 c hc ha) (ih l (by simp at hn; omega) (by simpa using hv))
        · have hh := rune_high c l h0 (by omega)
          have hsplit : c :: l = (c :: l).take (rune (c :: l)).2 ++ (c :: l).drop (rune (c :: l)).2 := (List.take_append_drop _ _).symm
          rw [hsplit, escape_append, escape_high _ hh]
          refine valid_both ?_ (ih _ (by rw [List.length_drop]; simp at hn ⊢; omega) hv)
          have hr0 := rune_take c l h0
          generalize hk : (rune (c :: l)).2 = k at *
          have hlen : ((c :: l).take k).length = k := by rw [List.length_take]; have := rune_le (c :: l); omega
          rw [valid_cons _ (by intro h; have := congrArg List.length h; rw [hlen] at this; simp at this; omega), hr0, hk, if_neg (by simp [h0, ha]), List.drop_eq_nil_of_le (by omega)]; rfl
end S
end Go.Proofs.Ytpfalkdkiffipaa
