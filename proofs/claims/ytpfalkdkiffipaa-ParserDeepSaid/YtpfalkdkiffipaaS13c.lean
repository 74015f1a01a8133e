/- Plain: what the pieces of written tags and texts are. -/
import Derived.Test.YtpfalkdkiffipaaS12c
import Derived.Test.YtpfalkdkiffipaaS13b
namespace Go.Proofs.Ytpfalkdkiffipaa
namespace S
/-- a name, whole -/
def isNm : B → Bool
  | [] => false
  | c :: l => isFirst c && l.all isName
theorem runL_app (p : UInt8 → Bool) (b : B) : ∀ a : B, a.all p = true → runLen p (a ++ b) = a.length + runLen p b
  | [], _ => by simp
  | c :: a, h => by
    simp only [List.all_cons, Bool.and_eq_true] at h
    rw [List.cons_append, runLen, if_pos h.1, runL_app p b a h.2, List.length_cons]; omega
theorem nameLen_at (n : B) (c : UInt8) (r : B) (hn : isNm n = true) (hc : isName c = false) : nameLen (n ++ c :: r) = n.length := by
  cases n with
  | nil => simp [isNm] at hn
  | cons a n =>
    simp only [isNm, Bool.and_eq_true] at hn
    rw [List.cons_append, nameLen, if_pos hn.1, runL_app _ _ _ hn.2, runLen, if_neg (by simp [hc]), List.length_cons]
theorem isFirst_lt (c : UInt8) (h : isFirst c = true) : 65 ≤ c.toNat ∧ c.toNat ≤ 122 ∧ (c.toNat ≤ 90 ∨ 95 ≤ c.toNat) := by
  unfold isFirst at h
  simp only [Bool.or_eq_true, Bool.and_eq_true, decide_eq_true_eq, beq_iff_eq] at h
  rcases h with (h | h) | h
  · omega
  · omega
  · subst h; decide
theorem isNm_head (n : B) (h : isNm n = true) : ∃ c l, n = c :: l ∧ isFirst c = true ∧ 65 ≤ c.toNat := by
  cases n with
  | nil => simp [isNm] at h
  | cons c l => simp only [isNm, Bool.and_eq_true] at h; exact ⟨c, l, rfl, h.1, (isFirst_lt c h.1).1⟩
theorem ne_of_ge (c : UInt8) (k : UInt8) (h : 65 ≤ c.toNat) (hk : k.toNat < 65) : c ≠ k := by intro e; subst e; omega
theorem pre1 (c : UInt8) (l : B) : Lib.hasPrefix (c :: l) [c] = true := by simp [Lib.hasPrefix]
theorem pre1_ne (c k : UInt8) (l p : B) (h : c ≠ k) : Lib.hasPrefix (c :: l) (k :: p) = false := by simp [Lib.hasPrefix, List.isPrefixOf, Ne.symm h]
theorem pre2_ne (a c k : UInt8) (l p : B) (h : c ≠ k) : Lib.hasPrefix (a :: c :: l) (a :: k :: p) = false := by simp [Lib.hasPrefix, List.isPrefixOf, Ne.symm h]
def atts (l : B) : Option (List Pc × B) := attrsL (l.length + 1) l
theorem nextL_tag (n : B) (c : UInt8) (r : B) (hn : isNm n = true) (hc : isName c = false) : nextL (60 :: (n ++ c :: r)) = (atts (c :: r)).map fun x => (⟨1, n, []⟩ :: x.1, x.2) := by
  have h1 := nameLen_at n c r hn hc
  obtain ⟨a, l, rfl, ha, ha2⟩ := isNm_head n hn
  have h2 : tEnd (60 :: (a :: l ++ c :: r)) = 1 + (a :: l).length := by unfold tEnd; rw [List.drop_succ_cons, List.drop_zero, h1]
  unfold nextL
  rw [List.cons_append, if_neg (by rw [pre2_ne _ _ _ _ _ (ne_of_ge a 33 ha2 (by decide))]; simp), if_neg (by rw [pre2_ne _ _ _ _ _ (ne_of_ge a 33 ha2 (by decide))]; simp), if_neg (by rw [pre2_ne _ _ _ _ _ (ne_of_ge a 47 ha2 (by decide))]; simp), if_pos (pre1 _ _), ← List.cons_append]
  unfold tagL
  have h3 : (60 :: (a :: l ++ c :: r)).drop (1 + (a :: l).length) = c :: r := by rw [Nat.add_comm, List.drop_succ_cons, List.drop_left]
  have h4 : (60 :: (a :: l ++ c :: r)).drop 1 = a :: l ++ c :: r := rfl
  rw [h2, if_neg (by simp), h3, h4, Nat.add_sub_cancel_left, List.take_left]
  unfold atts
  rw [attrsL_fuel _ ((c :: r).length + 1) (c :: r) (by simp; omega) (by omega)]
theorem atts_gt (r : B) : atts (62 :: r) = some ([⟨3, [], []⟩], r) := by
  unfold atts attrsL
  have h : skipLen (62 :: r) = 0 := by unfold skipLen; rw [runLen, if_neg (by decide)]
  rw [h, List.drop_zero, if_pos (pre1 _ _)]
  simp
theorem atts_empty (r : B) : atts (47 :: 62 :: r) = some ([⟨4, [], []⟩], r) := by
  unfold atts attrsL
  have h : skipLen (47 :: 62 :: r) = 0 := by unfold skipLen; rw [runLen, if_neg (by decide)]
  rw [h, List.drop_zero, if_neg (by rw [pre1_ne _ _ _ _ (by decide)]; simp), if_pos (by simp [Lib.hasPrefix])]
  simp
theorem atts_next (l x q : B) (m v : B) (h1 : Lib.hasPrefix (l.drop (skipLen l)) [62] = false) (h2 : Lib.hasPrefix (l.drop (skipLen l)) [47, 62] = false) (h : attrL l = some ([⟨2, m, v⟩], q)) (_hx : x = q) : atts l = (atts q).map fun y => (⟨2, m, v⟩ :: y.1, y.2) := by
  have hlt := attrL_lt l _ q h
  unfold atts
  rw [attrsL, if_neg (by rw [h1]; simp), if_neg (by rw [h2]; simp), h]
  simp only []
  rw [attrsL_fuel l.length (q.length + 1) q hlt (by omega)]
  rfl
theorem skip0 (c : UInt8) (l : B) (h : isSpace c = false) : skipLen (c :: l) = 0 := by unfold skipLen; rw [runLen, if_neg (by simp [h])]
theorem first_space (c : UInt8) (h : 65 ≤ c.toNat) : isSpace c = false := by
  have h1 := ne_of_ge c 32 h (by decide)
  have h2 := ne_of_ge c 9 h (by decide)
  have h3 := ne_of_ge c 10 h (by decide)
  have h4 := ne_of_ge c 13 h (by decide)
  simp [isSpace, h1, h2, h3, h4]
/-- an attribute, as it is written: a space, its name, its value behind =, between two of q -/
def attT (q : UInt8) (m v : B) : B := 32 :: (m ++ 61 :: q :: (escape v ++ [q]))
theorem atts_att (q : UInt8) (m v r : B) (hm : isNm m = true) (hq : q = 34 ∨ q = 39 ∧ (39 : UInt8) ∉ v) : atts (attT q m v ++ r) = (atts r).map fun y => (⟨2, m, v⟩ :: y.1, y.2) := by
  obtain ⟨a, l, rfl, ha, ha2⟩ := isNm_head m hm
  have hno : q ∉ escape v := by
    rcases hq with rfl | ⟨rfl, h⟩
    · exact escape_no v 34 (.inr rfl)
    · exact escape_39 v h
  have e0 : attT q (a :: l) v ++ r = 32 :: ((a :: l) ++ 61 :: (q :: (escape v ++ q :: r))) := by simp [attT]
  rw [e0]
  have s1 : skipLen (32 :: ((a :: l) ++ 61 :: (q :: (escape v ++ q :: r)))) = 1 := by
    unfold skipLen; rw [runLen, if_pos (by decide)]
    have := skip0 a (l ++ 61 :: (q :: (escape v ++ q :: r))) (first_space a ha2)
    unfold skipLen at this; rw [List.cons_append, this]
  have hf : aFrom (32 :: ((a :: l) ++ 61 :: (q :: (escape v ++ q :: r)))) = 1 := s1
  have he : aEnd (32 :: ((a :: l) ++ 61 :: (q :: (escape v ++ q :: r)))) = 1 + (a :: l).length := by
    unfold aEnd; rw [hf, List.drop_succ_cons, List.drop_zero, nameLen_at (a :: l) 61 _ hm (by decide)]
  have hd1 : (32 :: ((a :: l) ++ 61 :: (q :: (escape v ++ q :: r)))).drop (1 + (a :: l).length) = 61 :: (q :: (escape v ++ q :: r)) := by
    rw [Nat.add_comm, List.drop_succ_cons, List.drop_left]
  have hq1 : aEq (32 :: ((a :: l) ++ 61 :: (q :: (escape v ++ q :: r)))) = 1 + (a :: l).length := by
    unfold aEq; rw [he, hd1, skip0 61 _ (by decide)]; rfl
  have hd2 : (32 :: ((a :: l) ++ 61 :: (q :: (escape v ++ q :: r)))).drop (1 + (a :: l).length + 1) = q :: (escape v ++ q :: r) := by
    rw [← List.drop_drop, hd1]; rfl
  have ho : aOpen (32 :: ((a :: l) ++ 61 :: (q :: (escape v ++ q :: r)))) = 1 + (a :: l).length + 1 := by
    unfold aOpen; rw [hq1, hd2, skip0 q _ (by rcases hq with rfl | ⟨rfl, _⟩ <;> decide)]
  have hd3 : (32 :: ((a :: l) ++ 61 :: (q :: (escape v ++ q :: r)))).drop (1 + (a :: l).length + 1 + 1) = escape v ++ q :: r := by
    rw [← List.drop_drop, hd2]; rfl
  have hr : aRaw (32 :: ((a :: l) ++ 61 :: (q :: (escape v ++ q :: r)))) = (escape v, r, true) := by
    unfold aRaw; rw [ho, hd3, hd2, List.take_succ_cons, List.take_zero, cut_at q _ _ hno]
  refine atts_next _ r r (a :: l) v ?_ ?_ ?_ rfl
  · rw [s1, List.drop_succ_cons, List.drop_zero, List.cons_append, pre1_ne _ _ _ _ (ne_of_ge a 62 ha2 (by decide))]
  · rw [s1, List.drop_succ_cons, List.drop_zero, List.cons_append, pre1_ne _ _ _ _ (ne_of_ge a 47 ha2 (by decide))]
  · unfold attrL
    rw [hr, hf, he, hq1, ho, hd1, hd2, if_neg (by simp), if_neg (by simp), if_neg (by rw [pre1]; simp), if_neg, if_neg (by simp), if_neg, decode_escape]
    · simp only [Option.map_some, Option.some.injEq, Prod.mk.injEq, List.cons.injEq, Pc.mk.injEq, true_and, and_true]
      refine ⟨?_, ?_⟩
      · rw [List.drop_succ_cons, List.drop_zero, Nat.add_sub_cancel_left]; exact List.take_left
      · rw [show 1 + (a :: l).length + 1 + (escape v).length + 2 = 1 + (a :: l).length + 1 + 1 + ((escape v).length + 1) from by omega, ← List.drop_drop, hd3, ← List.drop_drop, List.drop_left]; rfl
    · rw [contains_no _ (escape_no v 60 (.inl rfl))]; simp
    · rintro ⟨h1, h2⟩
      rcases hq with rfl | ⟨rfl, _⟩
      · rw [pre1] at h1; simp at h1
      · rw [pre1] at h2; simp at h2
theorem nextL_close (n r : B) (hn : isNm n = true) : nextL (60 :: 47 :: (n ++ 62 :: r)) = some ([⟨5, n, []⟩], r) := by
  have h1 := nameLen_at n 62 r hn (by decide)
  unfold nextL
  rw [if_neg (by rw [pre2_ne _ _ _ _ _ (by decide)]; simp), if_neg (by rw [pre2_ne _ _ _ _ _ (by decide)]; simp), if_pos (by simp [Lib.hasPrefix])]
  have hne : n ≠ [] := by intro e; subst e; simp [isNm] at hn
  have hlen : 0 < n.length := List.length_pos_iff.2 hne
  have h2 : cEnd (60 :: 47 :: (n ++ 62 :: r)) = 2 + n.length := by unfold cEnd; rw [show (60 :: 47 :: (n ++ 62 :: r)).drop 2 = n ++ 62 :: r from rfl, h1]
  have h3 : (60 :: 47 :: (n ++ 62 :: r)).drop (2 + n.length) = 62 :: r := by rw [← List.drop_drop, show (60 :: 47 :: (n ++ 62 :: r)).drop 2 = n ++ 62 :: r from rfl, List.drop_left]
  have h4 : cGt (60 :: 47 :: (n ++ 62 :: r)) = 2 + n.length := by unfold cGt; rw [h2, h3, skip0 62 _ (by decide)]; rfl
  unfold closingL
  rw [h4, h2, h3, if_neg (by omega), if_neg (by rw [pre1]; simp), ← List.drop_drop, h3, show (60 :: 47 :: (n ++ 62 :: r)).drop 2 = n ++ 62 :: r from rfl, Nat.add_sub_cancel_left, List.take_left]
  rfl
theorem esc1_ne (c : UInt8) : esc1 c ≠ [] := by unfold esc1; (repeat' split) <;> simp
theorem escape_ne (v : B) (h : v ≠ []) : ∃ c l, escape v = c :: l ∧ c ≠ 60 := by
  cases he : escape v with
  | nil =>
    cases v with
    | nil => exact absurd rfl h
    | cons c l => rw [escape_cons] at he; exact absurd (List.append_eq_nil_iff.1 he).1 (esc1_ne c)
  | cons c l => exact ⟨c, l, rfl, fun e => escape_no v 60 (.inl rfl) (by rw [he, e]; simp)⟩
theorem nextL_text (v r : B) (hv : v ≠ []) : nextL (escape v ++ 60 :: r) = some ([⟨6, [], v⟩], 60 :: r) := by
  obtain ⟨c, l, he, hc⟩ := escape_ne v hv
  have hcut := cut_at 60 (escape v) r (escape_no v 60 (.inl rfl))
  unfold nextL
  rw [he, List.cons_append, if_neg (by rw [pre1_ne _ _ _ _ hc]; simp), if_neg (by rw [pre1_ne _ _ _ _ hc]; simp), if_neg (by rw [pre1_ne _ _ _ _ hc]; simp), if_neg (by rw [pre1_ne _ _ _ _ hc]; simp), ← List.cons_append, ← he]
  unfold textL
  rw [hcut]
  simp only []
  rw [decode_escape, List.drop_left]
  rfl
theorem lx_step (l q : B) (x : List Pc) (hl : l ≠ []) (h : nextL l = some (x, q)) : lx l = (lx q).map fun y => x ++ y := by rw [lx_next l hl, h]
end S
end Go.Proofs.Ytpfalkdkiffipaa
