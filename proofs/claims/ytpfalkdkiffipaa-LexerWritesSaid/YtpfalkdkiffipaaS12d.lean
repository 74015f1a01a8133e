/- The law LexerWrites, plain: a tag that is written is read as it was written. -/
import Derived.Test.YtpfalkdkiffipaaS12c
namespace Go.Proofs.Ytpfalkdkiffipaa
namespace S
theorem runLen_app (p : UInt8 → Bool) (b : B) : ∀ a : B, (∀ c ∈ a, p c = true) → runLen p (a ++ b) = a.length + runLen p b
  | [], _ => by simp
  | c :: a, h => by
    rw [List.cons_append, runLen, if_pos (h c (by simp)), runLen_app p b a (fun x hx => h x (by simp [hx])), List.length_cons]; omega
theorem runLen_stop (p : UInt8 → Bool) (c : UInt8) (b : B) (h : p c = false) : runLen p (c :: b) = 0 := by rw [runLen, if_neg (by simp [h])]
theorem skip_at' (d a b : B) (p : Nat) (c : UInt8) (hd : d.drop p = a ++ c :: b) (ha : ∀ x ∈ a, isSpace x = true) (hc : isSpace c = false) : skip d p = p + a.length ∧ d.drop (p + a.length) = c :: b := by
  constructor
  · unfold skip skipLen; rw [hd, runLen_app _ _ _ ha, runLen_stop _ _ _ hc]; rfl
  · rw [← List.drop_drop, hd, List.drop_left]
theorem drop_add (d a b : B) (p : Nat) (h : d.drop p = a ++ b) : d.drop (p + a.length) = b := by rw [← List.drop_drop, h, List.drop_left]
/-- a name of two letters -/
def nm (c : UInt8) : B := [110, u8 (97 + (c.toNat : Int) % 26)]
theorem nm_letter (c : UInt8) : 97 ≤ (u8 (97 + (c.toNat : Int) % 26)).toNat ∧ (u8 (97 + (c.toNat : Int) % 26)).toNat ≤ 122 := by
  unfold u8; simp; omega
theorem name_two (d b : B) (p : Nat) (x c : UInt8) (hd : d.drop p = nm x ++ c :: b) (hc : isName c = false) : nameEnd d p = p + 2 ∧ d.drop (p + 2) = c :: b ∧ part d p (p + 2) = nm x := by
  have h := nm_letter x
  refine ⟨?_, by have := drop_add d (nm x) (c :: b) p hd; simpa [nm] using this, by unfold part; rw [hd]; simp [nm]⟩
  unfold nameEnd
  rw [hd]
  unfold nm
  generalize u8 (97 + (x.toNat : Int) % 26) = y at *
  have hf : isFirst y = true := by unfold isFirst; simp [h]
  have hn : isName y = true := by unfold isName; rw [hf]; rfl
  simp only [List.cons_append, List.nil_append, nameLen]
  rw [if_pos (by decide), runLen, if_pos hn, runLen_stop _ _ _ hc]
/-- the i-th attribute, as it is written -/
def quote (i : Nat) : UInt8 := if i % 2 = 1 then 39 else 34
def attrText (sp : B) (i : Nat) (x : UInt8) (v : B) : B := 32 :: (sp ++ (nm x ++ (sp ++ (61 :: (sp ++ (quote i :: (escape v ++ [quote i])))))))
theorem quote_cases (i : Nat) : quote i = 34 ∨ quote i = 39 := by unfold quote; split <;> simp
theorem attr_text (d sp rest v : B) (p i : Nat) (x : UInt8) (hd : d.drop p = attrText sp i x v ++ rest) (hsp : ∀ c ∈ sp, isSpace c = true) (hv : i % 2 = 1 → (39 : UInt8) ∉ v) :
    ∃ fr q : Nat, attr d p = some ([⟨2, fr, q, nm x, v⟩], q) ∧ q = p + (attrText sp i x v).length ∧ d.drop q = rest ∧ Lib.hasPrefix (d.drop (skip d p)) [62] = false ∧ Lib.hasPrefix (d.drop (skip d p)) [47, 62] = false := by
  have hq := quote_cases i
  have hnot : ∀ c ∈ sp, isName c = false := fun c hc => by
    have := hsp c hc; unfold isSpace at this; simp at this
    rcases this with ((h | h) | h) | h <;> (subst h; decide)
  unfold attrText at hd
  -- from
  have h1 : d.drop p = (32 :: sp) ++ 110 :: (u8 (97 + (x.toNat : Int) % 26) :: (sp ++ (61 :: (sp ++ (quote i :: (escape v ++ [quote i])))) ++ rest)) := by rw [hd]; simp [nm]
  obtain ⟨s1, d1⟩ := skip_at' d (32 :: sp) _ p 110 h1 (by intro c hc; rcases List.mem_cons.1 hc with rfl | hc; decide; exact hsp c hc) (by decide)
  -- end of the name
  have h2 : ∃ c t, sp ++ (61 :: (sp ++ (quote i :: (escape v ++ [quote i])))) ++ rest = c :: t ∧ isName c = false := by
    cases hs : sp with
    | nil => exact ⟨61, _, rfl, by decide⟩
    | cons c t => exact ⟨c, _, rfl, hnot c (by rw [hs]; simp)⟩
  obtain ⟨c, t, h2, hc⟩ := h2
  obtain ⟨n1, d2, pt⟩ := name_two d t (p + (32 :: sp).length) x c (by rw [d1, h2]; rfl) hc
  rw [← h2] at d2
  -- the equal sign
  obtain ⟨s3, d3⟩ := skip_at' d sp ((sp ++ (quote i :: (escape v ++ [quote i]))) ++ rest) (p + (32 :: sp).length + 2) 61 (by rw [d2]; simp) hsp (by decide)
  have d3' : d.drop (p + (32 :: sp).length + 2 + sp.length + 1) = sp ++ (quote i :: (escape v ++ [quote i] ++ rest)) := by
    have := drop_add d [61] (sp ++ (quote i :: (escape v ++ [quote i])) ++ rest) _ (by rw [d3]; rfl)
    simpa using this
  obtain ⟨s4, d4⟩ := skip_at' d sp (escape v ++ [quote i] ++ rest) (p + (32 :: sp).length + 2 + sp.length + 1) (quote i) d3' hsp (by rcases hq with h | h <;> rw [h] <;> decide)
  have d5 : d.drop (p + (32 :: sp).length + 2 + sp.length + 1 + sp.length + 1) = escape v ++ quote i :: rest := by
    have := drop_add d [quote i] (escape v ++ [quote i] ++ rest) _ (by rw [d4]; rfl)
    simpa using this
  have e1 : attrFrom d p = p + (32 :: sp).length := s1
  have e2 : attrEnd d p = p + (32 :: sp).length + 2 := by unfold attrEnd; rw [e1]; exact n1
  have e3 : attrEq d p = p + (32 :: sp).length + 2 + sp.length := by unfold attrEq; rw [e2]; exact s3
  have e4 : attrOpen d p = p + (32 :: sp).length + 2 + sp.length + 1 + sp.length := by unfold attrOpen; rw [e3]; exact s4
  have hno : quote i ∉ escape v := by
    unfold quote at *
    split
    · rename_i h; exact escape_39 v (hv h)
    · exact escape_no v 34 (.inr rfl)
  have e5 : attrRaw d p = (escape v, rest, true) := by
    unfold attrRaw; rw [e4, d5, d4]; exact cut_at (quote i) (escape v) rest hno
  refine ⟨p + (32 :: sp).length, p + (32 :: sp).length + 2 + sp.length + 1 + sp.length + (escape v).length + 2, ?_, ?_, ?_, ?_, ?_⟩
  · unfold attr
    rw [e5]
    simp only []
    rw [e4, e3, e2, e1, d4, d3, decode_escape, contains_no _ (escape_no v 60 (.inl rfl))]
    rw [if_neg (by simp), if_neg (by omega), if_neg (by simp [Lib.hasPrefix, List.isPrefixOf])]
    rw [if_neg (by rcases hq with h | h <;> rw [h] <;> simp [Lib.hasPrefix, List.isPrefixOf]), if_neg (by simp), if_neg (by simp), pt]
    simp
  · unfold attrText; simp [nm]; omega
  · have := drop_add d (escape v ++ [quote i]) rest _ (by rw [d5]; simp)
    rw [show p + (32 :: sp).length + 2 + sp.length + 1 + sp.length + (escape v).length + 2 = p + (32 :: sp).length + 2 + sp.length + 1 + sp.length + 1 + (escape v ++ [quote i]).length from by simp; omega]
    exact this
  · rw [s1, d1]; simp [Lib.hasPrefix, List.isPrefixOf]
  · rw [s1, d1]; simp [Lib.hasPrefix, List.isPrefixOf]
def attrsText (sp : B) : Nat → List (UInt8 × B) → B
  | _, [] => []
  | i, (x, v) :: t => attrText sp i x v ++ attrsText sp (i + 1) t
def endText (sp : B) (empty : Bool) : B := sp ++ (if empty then [47, 62] else [62])
def docText (sp : B) (items : List (UInt8 × B)) (empty : Bool) : B := 60 :: 116 :: (attrsText sp 0 items ++ endText sp empty)
/-- the pieces behind a tag's name are those of its attributes, and its end -/
def Matches (empty : Bool) : List Tok → List (UInt8 × B) → Prop
  | ts, [] => ∃ l : Tok, ts = [l] ∧ l.kind = if empty then 4 else 3
  | ts, (x, v) :: items => ∃ (t : Tok) (ts' : List Tok), ts = t :: ts' ∧ t.kind = 2 ∧ t.name = nm x ∧ t.value = v ∧ Matches empty ts' items
/-- no value between single quotes has one -/
def Fits : Nat → List (UInt8 × B) → Prop
  | _, [] => True
  | i, (_, v) :: t => (i % 2 = 1 → (39 : UInt8) ∉ v) ∧ Fits (i + 1) t
theorem attrs_text (sp : B) (empty : Bool) (hsp : ∀ c ∈ sp, isSpace c = true) (d : B) : ∀ (items : List (UInt8 × B)) (k i p : Nat), d.drop p = attrsText sp i items ++ endText sp empty → items.length < k → Fits i items → p ≤ d.length →
    ∃ ts, attrsF k d p = some (ts, d.length) ∧ Matches empty ts items
  | [], k, i, p, hd, hk, _, hp => by
    obtain ⟨k, rfl⟩ : ∃ m, k = m + 1 := ⟨k - 1, by simp at hk; omega⟩
    cases empty with
    | true =>
      have hd' : d.drop p = sp ++ 47 :: [62] := by rw [hd]; rfl
      obtain ⟨s1, d1⟩ := skip_at' d sp [62] p 47 hd' hsp (by decide)
      have hl : d.length = p + sp.length + 2 := by have := congrArg List.length hd'; rw [List.length_drop] at this; simp at this; omega
      refine ⟨[⟨4, skip d p, skip d p + 2, [], []⟩], ?_, _, rfl, rfl⟩
      unfold attrsF
      rw [s1, d1, if_neg (by decide), if_pos (by decide), hl]
    | false =>
      have hd' : d.drop p = sp ++ 62 :: [] := by rw [hd]; rfl
      obtain ⟨s1, d1⟩ := skip_at' d sp [] p 62 hd' hsp (by decide)
      have hl : d.length = p + sp.length + 1 := by have := congrArg List.length hd'; rw [List.length_drop] at this; simp at this; omega
      refine ⟨[⟨3, skip d p, skip d p + 1, [], []⟩], ?_, _, rfl, rfl⟩
      unfold attrsF
      rw [s1, d1, if_pos (by decide), hl]
  | (x, v) :: items, k, i, p, hd, hk, hf, hp => by
    obtain ⟨k, rfl⟩ : ∃ m, k = m + 1 := ⟨k - 1, by simp at hk; omega⟩
    obtain ⟨fr, q, h1, h2, h3, h4, h5⟩ := attr_text d sp (attrsText sp (i + 1) items ++ endText sp empty) v p i x (by rw [hd, attrsText, List.append_assoc]) hsp hf.1
    have hq := attr_hi d p q _ hp h1
    obtain ⟨ts, h6, h7⟩ := attrs_text sp empty hsp d items k (i + 1) q h3 (by simp at hk; omega) hf.2 hq.2.1
    refine ⟨⟨2, fr, q, nm x, v⟩ :: ts, ?_, _, _, rfl, rfl, rfl, rfl, h7⟩
    unfold attrsF
    rw [h4, h5, h1]
    simp only [Bool.false_eq_true, if_false, h6]
    rfl
theorem text_head (sp : B) (items : List (UInt8 × B)) (empty : Bool) (i : Nat) (hsp : ∀ c ∈ sp, isSpace c = true) : ∃ c t, attrsText sp i items ++ endText sp empty = c :: t ∧ isName c = false := by
  cases items with
  | nil =>
    cases hs : sp with
    | nil => cases empty <;> exact ⟨_, _, rfl, by decide⟩
    | cons c t =>
      refine ⟨c, _, rfl, ?_⟩
      have := hsp c (by rw [hs]; simp); unfold isSpace at this; simp at this
      rcases this with ((h | h) | h) | h <;> (subst h; decide)
  | cons y items => obtain ⟨x, v⟩ := y; exact ⟨32, _, rfl, by decide⟩
theorem lexF_text (sp : B) (items : List (UInt8 × B)) (empty : Bool) (hsp : ∀ c ∈ sp, isSpace c = true) (hf : Fits 0 items) :
    ∃ ts, lexF ((docText sp items empty).length + 1) (docText sp items empty) 0 = some (⟨1, 0, 2, [116], []⟩ :: ts) ∧ Matches empty ts items := by
  generalize hd : docText sp items empty = d
  obtain ⟨c, t, h1, h2⟩ := text_head sp items empty 0 hsp
  have hd1 : d = 60 :: 116 :: c :: t := by rw [← hd, docText, h1]
  have hne : nameEnd d 1 = 2 := by
    unfold nameEnd; rw [hd1]
    simp only [List.drop_succ_cons, List.drop_zero, nameLen]
    rw [if_pos (by decide), runLen_stop _ _ _ h2]
  have hdr : d.drop 2 = attrsText sp 0 items ++ endText sp empty := by rw [← hd]; rfl
  have hil : ∀ (its : List (UInt8 × B)) (i : Nat), its.length ≤ (attrsText sp i its).length := by
    intro its
    induction its with
    | nil => intro i; simp
    | cons y its ih => intro i; obtain ⟨x, v⟩ := y; have := ih (i + 1); simp only [attrsText, attrText, List.length_cons, List.length_append]; omega
  have hlen : items.length < d.length + 1 := by
    have h3 := hil items 0
    have h4 := congrArg List.length hdr
    rw [List.length_drop, List.length_append] at h4
    omega
  obtain ⟨ts, h3, h4⟩ := attrs_text sp empty hsp d items (d.length + 1) 0 2 hdr hlen hf (by rw [hd1]; simp)
  refine ⟨ts, ?_, h4⟩
  have hpart : part d 1 2 = [116] := by rw [hd1]; rfl
  have htag : tag d 0 = some (⟨1, 0, 2, [116], []⟩ :: ts, d.length) := by
    unfold tag
    rw [hne, if_neg (by omega), h3, hpart]; rfl
  have hc1 : Lib.hasPrefix (d.drop 0) [60, 33, 45, 45] = false := by rw [hd1]; simp [Lib.hasPrefix, List.isPrefixOf]
  have hc2 : Lib.hasPrefix (d.drop 0) [60, 33, 91, 67, 68, 65, 84, 65, 91] = false := by rw [hd1]; simp [Lib.hasPrefix, List.isPrefixOf]
  have hc3 : Lib.hasPrefix (d.drop 0) [60, 47] = false := by rw [hd1]; simp [Lib.hasPrefix, List.isPrefixOf]
  have hc4 : Lib.hasPrefix (d.drop 0) [60] = true := by rw [hd1]; simp [Lib.hasPrefix, List.isPrefixOf]
  have hnext : next d 0 = some (⟨1, 0, 2, [116], []⟩ :: ts, d.length) := by
    unfold next; rw [hc1, hc2, hc3, hc4]; simpa using htag
  have hpos : ¬ d.length ≤ 0 := by rw [hd1]; simp
  obtain ⟨m, hm⟩ : ∃ m, d.length = m + 1 := ⟨d.length - 1, by omega⟩
  rw [lexF, if_neg hpos, hnext]
  simp only []
  rw [hm, lexF, if_pos (by omega)]; simp
theorem plain_valid1 (c : UInt8) (l : B) (h1 : c.toNat < 128) (h2 : allowed c.toNat = true) (h : valid l = true) : valid (c :: l) = true := by
  have : valid ([c] ++ l) = true := valid_both (valid_plain [c] (by unfold plainB; simp [h1, h2])) h
  simpa using this
theorem valid_nm (x : UInt8) : valid (nm x) = true := by
  have := nm_letter x
  unfold nm
  refine plain_valid1 _ _ (by decide) (by decide) (plain_valid1 _ _ (by omega) ?_ rfl)
  unfold allowed point; simp; omega
theorem valid_text (sp : B) (hsp : ∀ c ∈ sp, isSpace c = true) (empty : Bool) : ∀ (items : List (UInt8 × B)) (i : Nat), (∀ y ∈ items, valid y.2 = true) → valid (attrsText sp i items ++ endText sp empty) = true := by
  have hs : valid sp = true := valid_plain sp (by
    unfold plainB; rw [List.all_eq_true]; intro c hc
    have := hsp c hc; unfold isSpace at this; simp at this
    rcases this with ((h | h) | h) | h <;> (subst h; decide))
  intro items
  induction items with
  | nil =>
    intro i _
    cases empty with
    | true => show valid (sp ++ [47, 62]) = true; exact valid_both hs (by decide)
    | false => show valid (sp ++ [62]) = true; exact valid_both hs (by decide)
  | cons y items ih =>
    intro i hy
    obtain ⟨x, v⟩ := y
    have hv := valid_escape _ v (Nat.le_refl _) (hy (x, v) (by simp))
    have hq : valid [quote i] = true := by rcases quote_cases i with h | h <;> rw [h] <;> decide
    have hq2 : ∀ l : B, valid l = true → valid (quote i :: l) = true := fun l hl => by rcases quote_cases i with h | h <;> rw [h] <;> exact plain_valid1 _ _ (by decide) (by decide) hl
    rw [attrsText, List.append_assoc]
    refine valid_both ?_ (ih (i + 1) fun y h => hy y (by simp [h]))
    unfold attrText
    exact plain_valid1 _ _ (by decide) (by decide) (valid_both hs (valid_both (valid_nm x) (valid_both hs (plain_valid1 _ _ (by decide) (by decide) (valid_both hs (hq2 _ (valid_both hv hq)))))))
/-- THE LAW, PLAIN -/
theorem lex_text (sp : B) (items : List (UInt8 × B)) (empty : Bool) (hsp : ∀ c ∈ sp, isSpace c = true) (hf : Fits 0 items) (hv : ∀ y ∈ items, valid y.2 = true) (hl : (docText sp items empty).length ≤ 65536) :
    ∃ ts, lex (docText sp items empty) = .ok (⟨1, 0, 2, [116], []⟩ :: ts) ∧ Matches empty ts items := by
  obtain ⟨ts, h1, h2⟩ := lexF_text sp items empty hsp hf
  refine ⟨ts, ?_, h2⟩
  have hvd : valid (docText sp items empty) = true := plain_valid1 _ _ (by decide) (by decide) (plain_valid1 _ _ (by decide) (by decide) (valid_text sp hsp empty items 0 hv))
  unfold lex
  rw [if_neg (by omega), hvd, if_neg (by simp), h1]
end S
end Go.Proofs.Ytpfalkdkiffipaa
