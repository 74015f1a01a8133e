/- Plain facts: what is cut at a byte; an escaped text is read as the text. -/
import Derived.Test.YtpfalkdkiffipaaS12b
namespace Go.Proofs.Ytpfalkdkiffipaa
namespace S
theorem index_at (c : UInt8) (b : B) : ∀ a : B, c ∉ a → Lib.index (a ++ c :: b) [c] = a.length
  | [], _ => by simp [Lib.index, List.isPrefixOf]
  | x :: a, h => by
    have hx : x ≠ c := by rintro rfl; simp at h
    have ha : c ∉ a := fun h2 => h (by simp [h2])
    have ih := index_at c b a ha
    rw [List.cons_append, Lib.index, ih]
    have hp : ([c] : B).isPrefixOf (x :: (a ++ c :: b)) = false := by simp [List.isPrefixOf]; exact fun h => hx h.symm
    rw [if_neg (by rw [hp]; simp), if_neg (by simp)]; simp
theorem cut_at (c : UInt8) (a b : B) (h : c ∉ a) : Lib.cut (a ++ c :: b) [c] = (a, b, true) := by
  unfold Lib.cut
  rw [index_at c b a h, if_pos (by omega)]
  simp
theorem ixb_at (c : UInt8) (b : B) : ∀ a : B, c ∉ a → Lib.indexByte (a ++ c :: b) c = a.length
  | [], _ => by simp [Lib.indexByte]
  | x :: a, h => by
    have hx : (x == c) = false := by rw [beq_eq_false_iff_ne]; rintro rfl; simp at h
    have ih := ixb_at c b a (fun h2 => h (by simp [h2]))
    rw [List.cons_append, Lib.indexByte, ih, hx]
    rw [if_neg (by simp), if_neg (by simp)]; simp
theorem ixb_none (c : UInt8) : ∀ a : B, c ∉ a → Lib.indexByte a c = -1
  | [], _ => rfl
  | x :: a, h => by
    have hx : (x == c) = false := by rw [beq_eq_false_iff_ne]; rintro rfl; simp at h
    have ih := ixb_none c a (fun h2 => h (by simp [h2]))
    rw [Lib.indexByte, ih, hx]; rfl
theorem entity_of (c : UInt8) (r : B) (h : c = 38 ∨ c = 60 ∨ c = 62 ∨ c = 34) : entity (esc1 c ++ r) = ([c], (esc1 c).length) := by
  rcases h with rfl | rfl | rfl | rfl
  · have e : (esc1 38 ++ r).drop 1 = [97, 109, 112] ++ 59 :: r := rfl
    unfold entity; rw [e, cut_at _ _ _ (by decide)]; rfl
  · have e : (esc1 60 ++ r).drop 1 = [108, 116] ++ 59 :: r := rfl
    unfold entity; rw [e, cut_at _ _ _ (by decide)]; rfl
  · have e : (esc1 62 ++ r).drop 1 = [103, 116] ++ 59 :: r := rfl
    unfold entity; rw [e, cut_at _ _ _ (by decide)]; rfl
  · have e : (esc1 34 ++ r).drop 1 = [113, 117, 111, 116] ++ 59 :: r := rfl
    unfold entity; rw [e, cut_at _ _ _ (by decide)]; rfl
theorem esc1_special (c : UInt8) (h : c = 38 ∨ c = 60 ∨ c = 62 ∨ c = 34) : ∃ r, esc1 c = 38 :: r ∧ 3 ≤ r.length := by
  rcases h with rfl | rfl | rfl | rfl <;> exact ⟨_, rfl, by decide⟩
theorem esc1_other (c : UInt8) (h : ¬ (c = 38 ∨ c = 60 ∨ c = 62 ∨ c = 34)) : esc1 c = [c] := by
  unfold esc1; simp only [not_or] at h; rw [if_neg h.1, if_neg h.2.1, if_neg h.2.2.1, if_neg h.2.2.2]
theorem decodeF_cons (k : Nat) (l : B) (h : l ≠ []) : decodeF (k + 1) l = if Lib.indexByte l 38 < 0 then some l else if (entity (l.drop (Lib.indexByte l 38).toNat)).2 = 0 then none else
    (decodeF k (l.drop ((Lib.indexByte l 38).toNat + (entity (l.drop (Lib.indexByte l 38).toNat)).2))).map fun r => l.take (Lib.indexByte l 38).toNat ++ (entity (l.drop (Lib.indexByte l 38).toNat)).1 ++ r := by
  cases l with
  | nil => exact absurd rfl h
  | cons c l => rfl
theorem decodeF_none (k : Nat) (u : B) (h : (38 : UInt8) ∉ u) (hk : u.length ≤ k) : decodeF k u = some u := by
  cases u with
  | nil => cases k <;> rfl
  | cons c u =>
    obtain ⟨k, rfl⟩ : ∃ m, k = m + 1 := ⟨k - 1, by simp at hk; omega⟩
    rw [decodeF_cons _ _ (by simp), ixb_none _ _ h, if_pos (by omega)]
theorem decode_esc (l : B) : ∀ (k : Nat) (u : B), (38 : UInt8) ∉ u → (u ++ escape l).length ≤ k → decodeF k (u ++ escape l) = some (u ++ l) := by
  induction l with
  | nil => intro k u hu hk; simp only [escape, List.flatMap_nil, List.append_nil] at *; exact decodeF_none k u hu hk
  | cons c t ih =>
    intro k u hu hk
    by_cases hc : c = 38 ∨ c = 60 ∨ c = 62 ∨ c = 34
    · obtain ⟨r, hr, hr3⟩ := esc1_special c hc
      rw [escape_cons] at hk ⊢
      have hlen : (esc1 c).length = r.length + 1 := by rw [hr]; simp
      simp only [List.length_append] at hk
      obtain ⟨k, rfl⟩ : ∃ m, k = m + 1 := ⟨k - 1, by omega⟩
      have hix : Lib.indexByte (u ++ (esc1 c ++ escape t)) 38 = u.length := by rw [hr, List.cons_append]; exact ixb_at 38 _ u hu
      rw [decodeF_cons _ _ (by rw [hr]; simp), hix, if_neg (by omega)]
      simp only [Int.toNat_natCast, List.drop_left, List.take_left, entity_of c (escape t) hc]
      rw [if_neg (by omega)]
      have hd : (u ++ (esc1 c ++ escape t)).drop (u.length + (esc1 c).length) = escape t := by
        rw [← List.append_assoc, show u.length + (esc1 c).length = (u ++ esc1 c).length from by simp, List.drop_left]
      rw [hd]
      have := ih k [] (by simp) (by simp; omega)
      rw [List.nil_append, List.nil_append] at this
      rw [this]; simp
    · have h38 : c ≠ 38 := fun h => hc (.inl h)
      rw [escape_cons, esc1_other c hc] at hk ⊢
      rw [← List.append_assoc] at hk ⊢
      rw [ih k (u ++ [c]) (by simp [hu]; exact fun h => h38 h.symm) hk]; simp
theorem decode_escape (l : B) : decode (escape l) = some l := by
  have := decode_esc l (escape l).length [] (by simp) (by simp)
  simpa [decode] using this
theorem esc1_no (c x : UInt8) (h : x = 60 ∨ x = 34) : x ∉ esc1 c := by
  unfold esc1
  rcases h with rfl | rfl <;> (repeat' split) <;> first | decide | (simp only [List.mem_singleton]; intro h; simp_all)
theorem escape_no (l : B) (x : UInt8) (h : x = 60 ∨ x = 34) : x ∉ escape l := by
  intro hx
  obtain ⟨c, _, h2⟩ := List.mem_flatMap.1 hx
  exact esc1_no c x h h2
theorem esc1_39 (c : UInt8) (h : c ≠ 39) : (39 : UInt8) ∉ esc1 c := by
  unfold esc1
  (repeat' split) <;> first | decide | (simp only [List.mem_singleton]; exact fun h2 => h h2.symm)
theorem escape_39 (l : B) (h : (39 : UInt8) ∉ l) : (39 : UInt8) ∉ escape l := by
  intro hx
  obtain ⟨c, h1, h2⟩ := List.mem_flatMap.1 hx
  exact esc1_39 c (by rintro rfl; exact h h1) h2
theorem contains_no (l : B) (h : (60 : UInt8) ∉ l) : Lib.contains l [60] = false := by
  have : ∀ l : B, (60 : UInt8) ∉ l → Lib.index l [60] = -1 := by
    intro l
    induction l with
    | nil => intro _; rfl
    | cons x l ih =>
      intro h
      have hx : x ≠ 60 := by rintro rfl; simp at h
      have hp : ([60] : B).isPrefixOf (x :: l) = false := by simp [List.isPrefixOf]; exact fun h => hx h.symm
      rw [Lib.index, if_neg (by rw [hp]; simp), ih (fun h2 => h (by simp [h2]))]; rfl
  unfold Lib.contains; rw [this l h]; rfl
end S
end Go.Proofs.Ytpfalkdkiffipaa
