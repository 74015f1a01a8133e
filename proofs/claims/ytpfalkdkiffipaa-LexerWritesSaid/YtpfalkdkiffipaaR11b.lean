/- The reference's way of reading a character and the program's agree: plain. -/
import Derived.Test.YtpfalkdkiffipaaS11
namespace Go.Proofs.Ytpfalkdkiffipaa
namespace S
def less (n : Nat) : Int := if n = 2 then 192 else if n = 3 then 224 else if n = 4 then 240 else 0
def rawRest : B → Int → Int
  | [], c => c
  | b :: l, c => rawRest l (c * 64 + b.toNat - 128)
def raw (n : Nat) (l : B) : Int := match l with | [] => 0 | b :: t => rawRest (t.take (n - 1)) (b.toNat - less n)
def tryN (n : Nat) (l : B) : Bool := !decide (encode (raw n l) = []) && decide (encode (raw n l) = l.take n)

theorem u8_eq (x : Int) (b : UInt8) (h0 : 0 ≤ x) (h1 : x < 256) : u8 x = b ↔ x = b.toNat := by
  unfold u8
  rw [← UInt8.toNat_inj]
  simp
  omega
theorem enc_eq1 (c : Int) (b0 : UInt8) : encode c = [b0] ↔ 0 ≤ c ∧ c < 128 ∧ c = b0.toNat := by
  unfold encode point
  (repeat' split) <;> simp_all <;> (try omega)
  rw [u8_eq _ _ (by omega) (by omega)]
theorem enc_eq2 (c : Int) (b0 b1 : UInt8) : encode c = [b0, b1] ↔ 128 ≤ c ∧ c < 2048 ∧ 192 + c / 64 = b0.toNat ∧ 128 + c % 64 = b1.toNat := by
  unfold encode point
  (repeat' split) <;> simp_all <;> (try omega)
  rw [u8_eq _ _ (by omega) (by omega), u8_eq _ _ (by omega) (by omega)]
theorem enc_eq3 (c : Int) (b0 b1 b2 : UInt8) : encode c = [b0, b1, b2] ↔ point c = true ∧ 2048 ≤ c ∧ c < 65536 ∧ 224 + c / 64 / 64 = b0.toNat ∧ 128 + c / 64 % 64 = b1.toNat ∧ 128 + c % 64 = b2.toNat := by
  by_cases hp : point c = true
  · have hq := hp; unfold point at hq; simp at hq
    unfold encode; rw [hp]
    (repeat' split) <;> simp_all <;> (try omega)
    rw [u8_eq _ _ (by omega) (by omega), u8_eq _ _ (by omega) (by omega), u8_eq _ _ (by omega) (by omega)]
  · unfold encode; simp [hp]
theorem enc_eq4 (c : Int) (b0 b1 b2 b3 : UInt8) : encode c = [b0, b1, b2, b3] ↔ point c = true ∧ 65536 ≤ c ∧ 240 + c / 64 / 64 / 64 = b0.toNat ∧ 128 + c / 64 / 64 % 64 = b1.toNat ∧ 128 + c / 64 % 64 = b2.toNat ∧ 128 + c % 64 = b3.toNat := by
  by_cases hp : point c = true
  · have hq := hp; unfold point at hq; simp at hq
    unfold encode; rw [hp]
    (repeat' split) <;> simp_all <;> (try omega)
    rw [u8_eq _ _ (by omega) (by omega), u8_eq _ _ (by omega) (by omega), u8_eq _ _ (by omega) (by omega), u8_eq _ _ (by omega) (by omega)]
  · unfold encode; simp [hp]
theorem tryN_iff (n : Nat) (l : B) : tryN n l = true ↔ encode (raw n l) ≠ [] ∧ encode (raw n l) = l.take n := by unfold tryN; simp
theorem try_1 (b0 : UInt8) (t : B) : tryN 1 (b0 :: t) = true ↔ b0.toNat < 128 := by
  have e : raw 1 (b0 :: t) = b0.toNat := by unfold raw less; simp [rawRest]
  rw [tryN_iff, e]
  simp only [List.take_succ_cons, List.take_zero]
  rw [enc_eq1]
  constructor
  · rintro ⟨_, h⟩; omega
  · intro h
    refine ⟨?_, by omega⟩
    rw [(enc_eq1 (b0.toNat : Int) b0).2 (by omega)]; simp
theorem try_2 (b0 b1 : UInt8) (t : B) : tryN 2 (b0 :: b1 :: t) = true ↔ (128 ≤ ((b0.toNat : Int) - 192) * 64 + b1.toNat - 128 ∧ ((b0.toNat : Int) - 192) * 64 + b1.toNat - 128 < 2048 ∧ 128 ≤ b1.toNat ∧ b1.toNat < 192) := by
  have e : raw 2 (b0 :: b1 :: t) = ((b0.toNat : Int) - 192) * 64 + b1.toNat - 128 := by unfold raw less; simp [rawRest]
  have h0 := b0.toNat_lt
  have h1 := b1.toNat_lt
  rw [tryN_iff, e]
  simp only [List.take_succ_cons, List.take_zero]
  rw [enc_eq2]
  constructor
  · rintro ⟨_, h⟩; omega
  · intro h
    refine ⟨?_, by omega⟩
    rw [(enc_eq2 _ b0 b1).2 (by omega)]; simp
theorem try_3 (b0 b1 b2 : UInt8) (t : B) : tryN 3 (b0 :: b1 :: b2 :: t) = true ↔ (point ((((b0.toNat : Int) - 224) * 64 + b1.toNat - 128) * 64 + b2.toNat - 128) = true ∧ 2048 ≤ (((b0.toNat : Int) - 224) * 64 + b1.toNat - 128) * 64 + b2.toNat - 128 ∧ (((b0.toNat : Int) - 224) * 64 + b1.toNat - 128) * 64 + b2.toNat - 128 < 65536 ∧ 128 ≤ b1.toNat ∧ b1.toNat < 192 ∧ 128 ≤ b2.toNat ∧ b2.toNat < 192) := by
  have e : raw 3 (b0 :: b1 :: b2 :: t) = (((b0.toNat : Int) - 224) * 64 + b1.toNat - 128) * 64 + b2.toNat - 128 := by unfold raw less; simp [rawRest]
  have h0 := b0.toNat_lt
  have h1 := b1.toNat_lt
  have h2 := b2.toNat_lt
  rw [tryN_iff, e]
  simp only [List.take_succ_cons, List.take_zero]
  rw [enc_eq3]
  constructor
  · rintro ⟨_, hp, h⟩; exact ⟨hp, by omega⟩
  · rintro ⟨hp, h⟩
    refine ⟨?_, hp, by omega⟩
    rw [(enc_eq3 _ b0 b1 b2).2 ⟨hp, by omega⟩]; simp
theorem try_4 (b0 b1 b2 b3 : UInt8) (t : B) : tryN 4 (b0 :: b1 :: b2 :: b3 :: t) = true ↔ (point (((((b0.toNat : Int) - 240) * 64 + b1.toNat - 128) * 64 + b2.toNat - 128) * 64 + b3.toNat - 128) = true ∧ 65536 ≤ ((((b0.toNat : Int) - 240) * 64 + b1.toNat - 128) * 64 + b2.toNat - 128) * 64 + b3.toNat - 128 ∧ 128 ≤ b1.toNat ∧ b1.toNat < 192 ∧ 128 ≤ b2.toNat ∧ b2.toNat < 192 ∧ 128 ≤ b3.toNat ∧ b3.toNat < 192) := by
  have e : raw 4 (b0 :: b1 :: b2 :: b3 :: t) = ((((b0.toNat : Int) - 240) * 64 + b1.toNat - 128) * 64 + b2.toNat - 128) * 64 + b3.toNat - 128 := by unfold raw less; simp [rawRest]
  have h0 := b0.toNat_lt
  have h1 := b1.toNat_lt
  have h2 := b2.toNat_lt
  have h3 := b3.toNat_lt
  rw [tryN_iff, e]
  simp only [List.take_succ_cons, List.take_zero]
  rw [enc_eq4]
  constructor
  · rintro ⟨_, hp, h⟩; exact ⟨hp, by omega⟩
  · rintro ⟨hp, h⟩
    refine ⟨?_, hp, by omega⟩
    rw [(enc_eq4 _ b0 b1 b2 b3).2 ⟨hp, by omega⟩]; simp
theorem restCode1 (b1 : UInt8) (x : Int) : restCode [b1] x = if 128 ≤ b1.toNat ∧ b1.toNat < 192 then x * 64 + (b1.toNat - 128) else -1 := by unfold restCode; rfl
theorem restCode2 (b1 b2 : UInt8) (x : Int) : restCode [b1, b2] x = if 128 ≤ b1.toNat ∧ b1.toNat < 192 ∧ 128 ≤ b2.toNat ∧ b2.toNat < 192 then (x * 64 + (b1.toNat - 128)) * 64 + (b2.toNat - 128) else -1 := by
  rw [restCode, restCode1]; (repeat' split) <;> first | rfl | omega
theorem restCode3 (b1 b2 b3 : UInt8) (x : Int) : restCode [b1, b2, b3] x = if 128 ≤ b1.toNat ∧ b1.toNat < 192 ∧ 128 ≤ b2.toNat ∧ b2.toNat < 192 ∧ 128 ≤ b3.toNat ∧ b3.toNat < 192 then ((x * 64 + (b1.toNat - 128)) * 64 + (b2.toNat - 128)) * 64 + (b3.toNat - 128) else -1 := by
  rw [restCode, restCode2]; (repeat' split) <;> first | rfl | omega
theorem rune_cons (c : UInt8) (l : B) : rune (c :: l) = if runeLen c = 0 then (-1, 0) else if l.length + 1 < runeLen c then (-1, 0) else
    if point (restCode (l.take (runeLen c - 1)) (c.toNat - lead (runeLen c))) && decide (sizeOf (restCode (l.take (runeLen c - 1)) (c.toNat - lead (runeLen c))) = runeLen c) then (restCode (l.take (runeLen c - 1)) (c.toNat - lead (runeLen c)), runeLen c) else (-1, 0) := rfl
theorem runeLen_cases (c : UInt8) : (runeLen c = 1 ∧ c.toNat < 128) ∨ (runeLen c = 2 ∧ 192 ≤ c.toNat ∧ c.toNat < 224) ∨ (runeLen c = 3 ∧ 224 ≤ c.toNat ∧ c.toNat < 240) ∨ (runeLen c = 4 ∧ 240 ≤ c.toNat ∧ c.toNat < 248) ∨ (runeLen c = 0 ∧ (248 ≤ c.toNat ∨ (128 ≤ c.toNat ∧ c.toNat < 192))) := by
  unfold runeLen; (repeat' split) <;> omega
theorem rune_of1 (b0 : UInt8) (t : B) (h : b0.toNat < 128) : rune (b0 :: t) = (raw 1 (b0 :: t), 1) := by
  have e : raw 1 (b0 :: t) = b0.toNat := by unfold raw less; simp [rawRest]
  have hr : runeLen b0 = 1 := by have := runeLen_cases b0; omega
  have hp : point (b0.toNat : Int) = true := by unfold point; simp; omega
  have hs : sizeOf (b0.toNat : Int) = 1 := by unfold sizeOf; rw [if_pos (by omega)]
  rw [rune_cons, hr, e, if_neg (by omega), if_neg (by omega), show List.take (1 - 1) t = [] from by simp, restCode]
  have hl : lead ((1 : Nat) : Int) = 0 := by decide
  rw [hl, Int.sub_zero, hp, hs]; rfl
theorem rune_of2 (b0 b1 : UInt8) (t : B) (h : tryN 2 (b0 :: b1 :: t) = true) : rune (b0 :: b1 :: t) = (raw 2 (b0 :: b1 :: t), 2) := by
  have e : raw 2 (b0 :: b1 :: t) = ((b0.toNat : Int) - 192) * 64 + b1.toNat - 128 := by unfold raw less; simp [rawRest]
  have h0 := b0.toNat_lt
  obtain ⟨a1, a2, a3, a4⟩ := (try_2 b0 b1 t).1 h
  have hr : runeLen b0 = 2 := by have := runeLen_cases b0; omega
  have hl : lead ((2 : Nat) : Int) = 192 := by decide
  have hrc : ∀ x : Int, restCode [b1] x = x * 64 + (b1.toNat - 128) := fun x => by rw [restCode1, if_pos ⟨a3, a4⟩]
  rw [rune_cons, hr, e, if_neg (by omega), if_neg (by simp), show List.take (2 - 1) (b1 :: t) = [b1] from by simp, hrc, hl]
  rw [show ((b0.toNat : Int) - 192) * 64 + (b1.toNat - 128) = ((b0.toNat : Int) - 192) * 64 + b1.toNat - 128 from by omega]
  generalize ((b0.toNat : Int) - 192) * 64 + b1.toNat - 128 = c at *
  have hp : point c = true := by unfold point; simp; omega
  have hs : sizeOf c = 2 := by unfold sizeOf; rw [if_neg (by omega), if_pos (by omega)]
  rw [hp, hs]; rfl
theorem rune_of3 (b0 b1 b2 : UInt8) (t : B) (h : tryN 3 (b0 :: b1 :: b2 :: t) = true) : rune (b0 :: b1 :: b2 :: t) = (raw 3 (b0 :: b1 :: b2 :: t), 3) := by
  have e : raw 3 (b0 :: b1 :: b2 :: t) = (((b0.toNat : Int) - 224) * 64 + b1.toNat - 128) * 64 + b2.toNat - 128 := by unfold raw less; simp [rawRest]
  have h0 := b0.toNat_lt
  obtain ⟨hp, a1, a2, a3, a4, a5, a6⟩ := (try_3 b0 b1 b2 t).1 h
  have hr : runeLen b0 = 3 := by have := runeLen_cases b0; omega
  have hl : lead ((3 : Nat) : Int) = 224 := by decide
  have hrc : ∀ x : Int, restCode [b1, b2] x = (x * 64 + (b1.toNat - 128)) * 64 + (b2.toNat - 128) := fun x => by rw [restCode2, if_pos ⟨a3, a4, a5, a6⟩]
  rw [rune_cons, hr, e, if_neg (by omega), if_neg (by simp), show List.take (3 - 1) (b1 :: b2 :: t) = [b1, b2] from by simp, hrc, hl]
  rw [show (((b0.toNat : Int) - 224) * 64 + (b1.toNat - 128)) * 64 + (b2.toNat - 128) = (((b0.toNat : Int) - 224) * 64 + b1.toNat - 128) * 64 + b2.toNat - 128 from by omega]
  generalize (((b0.toNat : Int) - 224) * 64 + b1.toNat - 128) * 64 + b2.toNat - 128 = c at *
  have hs : sizeOf c = 3 := by unfold sizeOf; rw [if_neg (by omega), if_neg (by omega), if_pos (by omega)]
  rw [hp, hs]; rfl
theorem rune_of4 (b0 b1 b2 b3 : UInt8) (t : B) (h : tryN 4 (b0 :: b1 :: b2 :: b3 :: t) = true) : rune (b0 :: b1 :: b2 :: b3 :: t) = (raw 4 (b0 :: b1 :: b2 :: b3 :: t), 4) := by
  have e : raw 4 (b0 :: b1 :: b2 :: b3 :: t) = ((((b0.toNat : Int) - 240) * 64 + b1.toNat - 128) * 64 + b2.toNat - 128) * 64 + b3.toNat - 128 := by unfold raw less; simp [rawRest]
  have h0 := b0.toNat_lt
  obtain ⟨hp, a1, a3, a4, a5, a6, a7, a8⟩ := (try_4 b0 b1 b2 b3 t).1 h
  have hp2 := hp
  unfold point at hp2
  simp at hp2
  have hr : runeLen b0 = 4 := by have := runeLen_cases b0; omega
  have hl : lead ((4 : Nat) : Int) = 240 := by decide
  have hrc : ∀ x : Int, restCode [b1, b2, b3] x = ((x * 64 + (b1.toNat - 128)) * 64 + (b2.toNat - 128)) * 64 + (b3.toNat - 128) := fun x => by rw [restCode3, if_pos ⟨a3, a4, a5, a6, a7, a8⟩]
  rw [rune_cons, hr, e, if_neg (by omega), if_neg (by simp), show List.take (4 - 1) (b1 :: b2 :: b3 :: t) = [b1, b2, b3] from by simp, hrc, hl]
  rw [show ((((b0.toNat : Int) - 240) * 64 + (b1.toNat - 128)) * 64 + (b2.toNat - 128)) * 64 + (b3.toNat - 128) = ((((b0.toNat : Int) - 240) * 64 + b1.toNat - 128) * 64 + b2.toNat - 128) * 64 + b3.toNat - 128 from by omega]
  clear hp2
  generalize ((((b0.toNat : Int) - 240) * 64 + b1.toNat - 128) * 64 + b2.toNat - 128) * 64 + b3.toNat - 128 = c at *
  have hs : sizeOf c = 4 := by unfold sizeOf; rw [if_neg (by omega), if_neg (by omega), if_neg (by omega)]
  rw [hp, hs]; rfl
theorem rune_try (l : B) (n : Nat) (h1 : 1 ≤ n) (h4 : n ≤ 4) (hl : n ≤ l.length) (h : tryN n l = true) : rune l = (raw n l, n) := by
  have hn : n = 1 ∨ n = 2 ∨ n = 3 ∨ n = 4 := by omega
  rcases hn with rfl | rfl | rfl | rfl
  · match l, hl with
    | b0 :: t, _ => exact rune_of1 b0 t ((try_1 b0 t).1 h)
  · match l, hl with
    | b0 :: b1 :: t, _ => exact rune_of2 b0 b1 t h
    | [_], hl => simp at hl
  · match l, hl with
    | b0 :: b1 :: b2 :: t, _ => exact rune_of3 b0 b1 b2 t h
    | [_], hl => simp at hl
    | [_, _], hl => simp at hl
  · match l, hl with
    | b0 :: b1 :: b2 :: b3 :: t, _ => exact rune_of4 b0 b1 b2 b3 t h
    | [_], hl => simp at hl
    | [_, _], hl => simp at hl
    | [_, _, _], hl => simp at hl
theorem rune_shape (c : UInt8) (l : B) (h : (rune (c :: l)).2 ≠ 0) : runeLen c ≠ 0 ∧ runeLen c ≤ l.length + 1 ∧ (rune (c :: l)).2 = runeLen c ∧ point (restCode (l.take (runeLen c - 1)) (c.toNat - lead (runeLen c))) = true ∧ sizeOf (restCode (l.take (runeLen c - 1)) (c.toNat - lead (runeLen c))) = runeLen c := by
  rw [rune_cons] at h ⊢
  split at h; · simp at h
  split at h; · simp at h
  split at h
  · rename_i h1 h2 h3
    simp only [Bool.and_eq_true, decide_eq_true_eq] at h3
    rw [if_neg h1, if_neg h2, if_pos (by simp [h3])]
    exact ⟨h1, by omega, rfl, h3.1, h3.2⟩
  · simp at h
theorem sizeOf_2 (c : Int) (h : sizeOf c = 2) : 128 ≤ c ∧ c < 2048 := by unfold sizeOf at h; (repeat' split at h) <;> omega
theorem sizeOf_3 (c : Int) (h : sizeOf c = 3) : 2048 ≤ c ∧ c < 65536 := by unfold sizeOf at h; (repeat' split at h) <;> omega
theorem sizeOf_4 (c : Int) (h : sizeOf c = 4) : 65536 ≤ c := by unfold sizeOf at h; (repeat' split at h) <;> omega
theorem try_rune (l : B) (h : (rune l).2 ≠ 0) : tryN (rune l).2 l = true ∧ (rune l).2 ≤ 4 := by
  cases l with
  | nil => simp [rune] at h
  | cons b0 t =>
    obtain ⟨h1, h2, h3, h4, h5⟩ := rune_shape b0 t h
    rw [h3]
    rcases runeLen_cases b0 with ⟨e, hc⟩ | ⟨e, hc⟩ | ⟨e, hc⟩ | ⟨e, hc⟩ | ⟨e, hc⟩
    · rw [e]; exact ⟨(try_1 b0 t).2 hc, by omega⟩
    · rw [e] at h4 h5 h2 ⊢
      have hl : lead ((2 : Nat) : Int) = 192 := by decide
      rw [hl] at h4 h5
      match t, h2 with
      | b1 :: t, _ =>
        rw [show List.take (2 - 1) (b1 :: t) = [b1] from by simp, restCode1] at h4 h5
        split at h5
        · rename_i hq
          have := sizeOf_2 _ h5
          exact ⟨(try_2 b0 b1 t).2 (by omega), by omega⟩
        · exact absurd h5 (by decide)
      | [], h2 => simp at h2
    · rw [e] at h4 h5 h2 ⊢
      have hl : lead ((3 : Nat) : Int) = 224 := by decide
      rw [hl] at h4 h5
      match t, h2 with
      | b1 :: b2 :: t, _ =>
        rw [show List.take (3 - 1) (b1 :: b2 :: t) = [b1, b2] from by simp, restCode2] at h4 h5
        split at h5
        · rename_i hq
          rw [if_pos hq] at h4
          have := sizeOf_3 _ h5
          refine ⟨(try_3 b0 b1 b2 t).2 ⟨?_, by omega⟩, by omega⟩
          rw [show (((b0.toNat : Int) - 224) * 64 + b1.toNat - 128) * 64 + b2.toNat - 128 = (((b0.toNat : Int) - 224) * 64 + (b1.toNat - 128)) * 64 + (b2.toNat - 128) from by omega]; exact h4
        · exact absurd h5 (by decide)
      | [], h2 => simp at h2
      | [_], h2 => simp at h2
    · rw [e] at h4 h5 h2 ⊢
      have hl : lead ((4 : Nat) : Int) = 240 := by decide
      rw [hl] at h4 h5
      match t, h2 with
      | b1 :: b2 :: b3 :: t, _ =>
        rw [show List.take (4 - 1) (b1 :: b2 :: b3 :: t) = [b1, b2, b3] from by simp, restCode3] at h4 h5
        split at h5
        · rename_i hq
          rw [if_pos hq] at h4
          have := sizeOf_4 _ h5
          refine ⟨(try_4 b0 b1 b2 b3 t).2 ⟨?_, by omega⟩, by omega⟩
          rw [show ((((b0.toNat : Int) - 240) * 64 + b1.toNat - 128) * 64 + b2.toNat - 128) * 64 + b3.toNat - 128 = ((((b0.toNat : Int) - 240) * 64 + (b1.toNat - 128)) * 64 + (b2.toNat - 128)) * 64 + (b3.toNat - 128) from by omega]; exact h4
        · exact absurd h5 (by decide)
      | [], h2 => simp at h2
      | [_], h2 => simp at h2
      | [_, _], h2 => simp at h2
    · exact absurd e h1
/-- the reference's answer: the first n that fits, else none -/
theorem rune_not (l : B) (h : ∀ n, 1 ≤ n → n ≤ 4 → n ≤ l.length → tryN n l = false) : rune l = (-1, 0) := by
  by_cases h0 : (rune l).2 = 0
  · cases l with
    | nil => rfl
    | cons b0 t =>
      rw [rune_cons] at h0 ⊢
      split; · rfl
      split; · rfl
      split
      · rename_i h1 h2 h3
        rw [if_neg h1, if_neg h2, if_pos h3] at h0
        exact absurd h0 h1
      · rfl
  · obtain ⟨h1, h2⟩ := try_rune l h0
    have := h _ (by omega) h2 (rune_le l)
    rw [this] at h1; exact absurd h1 (by simp)
end S
end Go.Proofs.Ytpfalkdkiffipaa
