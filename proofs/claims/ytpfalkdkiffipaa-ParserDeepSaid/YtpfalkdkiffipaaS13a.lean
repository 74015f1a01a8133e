/- Plain: a document's pieces told without places, off the list that is left. -/
import Derived.Test.YtpfalkdkiffipaaS12a
import Derived.Test.YtpfalkdkiffipaaS13
namespace Go.Proofs.Ytpfalkdkiffipaa
namespace S
def commentL (l : B) : Option (List Pc × B) :=
  if Lib.index (l.drop 4) [45, 45] < 0 then none else
  if Lib.hasPrefix ((l.drop 4).drop (Lib.index (l.drop 4) [45, 45]).toNat) [45, 45, 62] = false then none else
  some ([⟨7, [], (l.drop 4).take (Lib.index (l.drop 4) [45, 45]).toNat⟩], l.drop (7 + (Lib.index (l.drop 4) [45, 45]).toNat))
def plainL (l : B) : Option (List Pc × B) :=
  if (Lib.cut (l.drop 9) [93, 93, 62]).2.2 = false then none else
  some ([⟨6, [], (Lib.cut (l.drop 9) [93, 93, 62]).1⟩], l.drop (12 + (Lib.cut (l.drop 9) [93, 93, 62]).1.length))
def textL (l : B) : Option (List Pc × B) :=
  (decode (Lib.cut l [60]).1).map fun v => ([⟨6, [], v⟩], l.drop (Lib.cut l [60]).1.length)
def cEnd (l : B) : Nat := 2 + nameLen (l.drop 2)
def cGt (l : B) : Nat := cEnd l + skipLen (l.drop (cEnd l))
def closingL (l : B) : Option (List Pc × B) :=
  if cEnd l = 2 then none else if Lib.hasPrefix (l.drop (cGt l)) [62] = false then none else
  some ([⟨5, (l.drop 2).take (cEnd l - 2), []⟩], l.drop (cGt l + 1))
def aFrom (l : B) : Nat := skipLen l
def aEnd (l : B) : Nat := aFrom l + nameLen (l.drop (aFrom l))
def aEq (l : B) : Nat := aEnd l + skipLen (l.drop (aEnd l))
def aOpen (l : B) : Nat := aEq l + 1 + skipLen (l.drop (aEq l + 1))
def aRaw (l : B) : B × B × Bool := Lib.cut (l.drop (aOpen l + 1)) ((l.drop (aOpen l)).take 1)
def attrL (l : B) : Option (List Pc × B) :=
  if aFrom l = 0 then none else if aEnd l = aFrom l then none else
  if Lib.hasPrefix (l.drop (aEq l)) [61] = false then none else
  if Lib.hasPrefix (l.drop (aOpen l)) [34] = false ∧ Lib.hasPrefix (l.drop (aOpen l)) [39] = false then none else
  if (aRaw l).2.2 = false then none else if Lib.contains (aRaw l).1 [60] then none else
  (decode (aRaw l).1).map fun v => ([⟨2, (l.drop (aFrom l)).take (aEnd l - aFrom l), v⟩], l.drop (aOpen l + (aRaw l).1.length + 2))
def attrsL : Nat → B → Option (List Pc × B)
  | 0, _ => none
  | k + 1, l =>
    if Lib.hasPrefix (l.drop (skipLen l)) [62] then some ([⟨3, [], []⟩], l.drop (skipLen l + 1)) else
    if Lib.hasPrefix (l.drop (skipLen l)) [47, 62] then some ([⟨4, [], []⟩], l.drop (skipLen l + 2)) else
    match attrL l with
    | none => none
    | some (x, q) => (attrsL k q).map fun y => (x ++ y.1, y.2)
def tEnd (l : B) : Nat := 1 + nameLen (l.drop 1)
def tagL (l : B) : Option (List Pc × B) :=
  if tEnd l = 1 then none else
  (attrsL (l.length + 1) (l.drop (tEnd l))).map fun x => (⟨1, (l.drop 1).take (tEnd l - 1), []⟩ :: x.1, x.2)
def nextL (l : B) : Option (List Pc × B) :=
  if Lib.hasPrefix l [60, 33, 45, 45] then commentL l else
  if Lib.hasPrefix l [60, 33, 91, 67, 68, 65, 84, 65, 91] then plainL l else
  if Lib.hasPrefix l [60, 47] then closingL l else
  if Lib.hasPrefix l [60] then tagL l else textL l
def lxF : Nat → B → Option (List Pc)
  | 0, _ => none
  | k + 1, l => if l = [] then some [] else
    match nextL l with
    | none => none
    | some (x, q) => (lxF k q).map fun y => x ++ y
def lx (l : B) : Option (List Pc) := lxF (l.length + 1) l

/-- a step with places, and the same without -/
def strip (d : B) (x : List Tok × Nat) : List Pc × B := (x.1.map Tok.pc, d.drop x.2)
theorem comment_L (d : B) (p : Nat) : (comment d p).map (strip d) = commentL (d.drop p) := by
  unfold comment commentL
  simp only [List.drop_drop]
  split; · rfl
  split; · rfl
  simp only [Option.map_some, strip, List.map_cons, List.map_nil, Tok.pc, Nat.add_assoc]
theorem plain_L (d : B) (p : Nat) : (plain d p).map (strip d) = plainL (d.drop p) := by
  unfold plain plainL
  rw [List.drop_drop]
  split; · rfl
  simp only [Option.map_some, strip, List.map_cons, List.map_nil, Tok.pc, List.drop_drop]
  congr 3; omega
theorem text_L (d : B) (p : Nat) : (text d p).map (strip d) = textL (d.drop p) := by
  unfold text textL
  cases decode (Lib.cut (d.drop p) [60]).1 with
  | none => rfl
  | some v => simp only [Option.map_some, strip, List.map_cons, List.map_nil, Tok.pc, List.drop_drop]
theorem closing_L (d : B) (p : Nat) : (closing d p).map (strip d) = closingL (d.drop p) := by
  have h1 : nameEnd d (p + 2) = p + cEnd (d.drop p) := by unfold nameEnd cEnd; rw [List.drop_drop]; omega
  have h2 : skip d (nameEnd d (p + 2)) = p + cGt (d.drop p) := by rw [h1]; unfold skip cGt; rw [List.drop_drop]; omega
  unfold closing closingL
  rw [h2, h1, List.drop_drop]
  have h3 : 2 ≤ cEnd (d.drop p) := by unfold cEnd; omega
  by_cases h : cEnd (d.drop p) = 2
  · rw [if_pos h, if_pos (by omega)]; rfl
  · rw [if_neg h, if_neg (by omega)]
    split; · rfl
    simp only [Option.map_some, strip, List.map_cons, List.map_nil, Tok.pc, List.drop_drop, part, Nat.add_sub_add_left, Nat.add_assoc]
theorem attr_L (d : B) (p : Nat) : (attr d p).map (strip d) = attrL (d.drop p) := by
  have h1 : attrFrom d p = p + aFrom (d.drop p) := by unfold attrFrom skip aFrom; rfl
  have h2 : attrEnd d p = p + aEnd (d.drop p) := by unfold attrEnd nameEnd; rw [h1]; unfold aEnd; rw [List.drop_drop]; omega
  have h3 : attrEq d p = p + aEq (d.drop p) := by unfold attrEq skip; rw [h2]; unfold aEq; rw [List.drop_drop]; omega
  have h4 : attrOpen d p = p + aOpen (d.drop p) := by unfold attrOpen skip; rw [h3]; unfold aOpen; rw [List.drop_drop]; simp only [Nat.add_assoc]
  have h5 : attrRaw d p = aRaw (d.drop p) := by unfold attrRaw aRaw; rw [h4]; simp only [List.drop_drop, Nat.add_assoc]
  unfold attr attrL
  rw [h5, h4, h3, h2, h1]
  simp only [List.drop_drop]
  have h6 : aFrom (d.drop p) ≤ aEnd (d.drop p) := by unfold aEnd; omega
  by_cases c1 : aFrom (d.drop p) = 0
  · rw [if_pos c1, if_pos (by omega)]; rfl
  rw [if_neg c1, if_neg (by omega)]
  by_cases c2 : aEnd (d.drop p) = aFrom (d.drop p)
  · rw [if_pos c2, if_pos (by omega)]; rfl
  rw [if_neg c2, if_neg (by omega)]
  split; · rfl
  split; · rfl
  split; · rfl
  split; · rfl
  cases decode (aRaw (d.drop p)).1 with
  | none => rfl
  | some v =>
    simp only [Option.map_some, strip, List.map_cons, List.map_nil, Tok.pc, List.drop_drop, part, Nat.add_sub_add_left, Nat.add_assoc]
theorem attrs_L (k : Nat) (d : B) : ∀ p, (attrsF k d p).map (strip d) = attrsL k (d.drop p) := by
  induction k with
  | zero => intro p; rfl
  | succ k ih =>
    intro p
    have h1 : skip d p = p + skipLen (d.drop p) := rfl
    unfold attrsF attrsL
    rw [h1]
    simp only [List.drop_drop]
    split
    · simp only [Option.map_some, strip, List.map_cons, List.map_nil, Tok.pc]; congr 3
    split
    · simp only [Option.map_some, strip, List.map_cons, List.map_nil, Tok.pc]; congr 3
    have h2 := attr_L d p
    cases ha : attr d p with
    | none => rw [ha] at h2; rw [← h2]; rfl
    | some x =>
      obtain ⟨l, q⟩ := x
      rw [ha] at h2
      simp only [Option.map_some, strip] at h2
      rw [← h2]
      simp only []
      rw [← ih q]
      cases attrsF k d q with
      | none => rfl
      | some y => simp [strip]
theorem attrL_lt (l : B) (x : List Pc) (q : B) (h : attrL l = some (x, q)) : q.length < l.length := by
  have h1 := attr_L l 0
  rw [List.drop_zero, h] at h1
  cases ha : attr l 0 with
  | none => rw [ha] at h1; simp at h1
  | some y =>
    obtain ⟨t, r⟩ := y
    rw [ha] at h1
    simp only [Option.map_some, strip, Option.some.injEq, Prod.mk.injEq] at h1
    obtain ⟨h2, h3, _⟩ := attr_hi l 0 r t (by omega) ha
    rw [← h1.2, List.length_drop]; omega
theorem attrsL_fuel (k : Nat) : ∀ (j : Nat) (l : B), l.length < k → l.length < j → attrsL k l = attrsL j l := by
  induction k with
  | zero => intro j l h; omega
  | succ k ih =>
    intro j l hk hj
    obtain ⟨j, rfl⟩ : ∃ m, j = m + 1 := ⟨j - 1, by omega⟩
    unfold attrsL
    split; · rfl
    split; · rfl
    cases ha : attrL l with
    | none => rfl
    | some x =>
      obtain ⟨x, q⟩ := x
      have := attrL_lt l x q ha
      simp only []
      rw [ih j q (by omega) (by omega)]
theorem tag_L (d : B) (p : Nat) (hp : p ≤ d.length) : (tag d p).map (strip d) = tagL (d.drop p) := by
  have h1 : nameEnd d (p + 1) = p + tEnd (d.drop p) := by unfold nameEnd tEnd; rw [List.drop_drop]; omega
  unfold tag tagL
  rw [h1]
  have h3 : 1 ≤ tEnd (d.drop p) := by unfold tEnd; omega
  by_cases h : tEnd (d.drop p) = 1
  · rw [if_pos h, if_pos (by omega)]; rfl
  have h2 := attrs_L (d.length + 1) d (p + tEnd (d.drop p))
  have h4 : attrsL ((d.drop p).length + 1) ((d.drop p).drop (tEnd (d.drop p))) = attrsL (d.length + 1) (d.drop (p + tEnd (d.drop p))) := by
    rw [List.drop_drop]; exact attrsL_fuel _ _ _ (by simp only [List.length_drop]; omega) (by simp only [List.length_drop]; omega)
  rw [if_neg h, if_neg (by omega), h4, ← h2]
  cases attrsF (d.length + 1) d (p + tEnd (d.drop p)) with
  | none => rfl
  | some y => simp only [Option.map_some, strip, List.map_cons, Tok.pc, part, List.drop_drop, Nat.add_sub_add_left]
theorem next_L (d : B) (p : Nat) (hp : p ≤ d.length) : (next d p).map (strip d) = nextL (d.drop p) := by
  unfold next nextL
  split; · exact comment_L d p
  split; · exact plain_L d p
  split; · exact closing_L d p
  split; · exact tag_L d p hp
  exact text_L d p
theorem nextL_lt (l : B) (x : List Pc) (q : B) (hl : l ≠ []) (h : nextL l = some (x, q)) : q.length < l.length := by
  have h1 := next_L l 0 (by omega)
  rw [List.drop_zero, h] at h1
  cases ha : next l 0 with
  | none => rw [ha] at h1; simp at h1
  | some y =>
    obtain ⟨t, r⟩ := y
    rw [ha] at h1
    simp only [Option.map_some, strip, Option.some.injEq, Prod.mk.injEq] at h1
    have hlt : 0 < l.length := List.length_pos_iff.2 hl
    obtain ⟨h2, h3, _⟩ := next_hi l 0 r t hlt ha
    rw [← h1.2, List.length_drop]; omega
theorem lxF_fuel (k : Nat) : ∀ (j : Nat) (l : B), l.length < k → l.length < j → lxF k l = lxF j l := by
  induction k with
  | zero => intro j l h; omega
  | succ k ih =>
    intro j l hk hj
    obtain ⟨j, rfl⟩ : ∃ m, j = m + 1 := ⟨j - 1, by omega⟩
    unfold lxF
    split; · rfl
    rename_i hl
    cases ha : nextL l with
    | none => rfl
    | some x =>
      obtain ⟨x, q⟩ := x
      have := nextL_lt l x q hl ha
      simp only []
      rw [ih j q (by omega) (by omega)]
theorem lexF_L (k : Nat) (d : B) : ∀ p, p ≤ d.length → (lexF k d p).map (fun x => x.map Tok.pc) = lxF k (d.drop p) := by
  induction k with
  | zero => intro p _; rfl
  | succ k ih =>
    intro p hp
    unfold lexF lxF
    by_cases h : d.length ≤ p
    · rw [if_pos h, if_pos (List.drop_eq_nil_of_le h)]; rfl
    rw [if_neg h, if_neg (by intro e; have := congrArg List.length e; rw [List.length_drop] at this; simp at this; omega)]
    have h2 := next_L d p hp
    cases ha : next d p with
    | none => rw [ha] at h2; rw [← h2]; rfl
    | some x =>
      obtain ⟨l, q⟩ := x
      rw [ha] at h2
      simp only [Option.map_some, strip] at h2
      rw [← h2]
      simp only []
      obtain ⟨_, h4, _⟩ := next_hi d p q l (by omega) ha
      rw [← ih q h4]
      cases lexF k d q with
      | none => rfl
      | some y => simp
/-- the pieces, off the list that is left -/
theorem lx_nil : lx [] = some [] := rfl
theorem lx_next (l : B) (hl : l ≠ []) : lx l = match nextL l with | none => none | some (x, q) => (lx q).map fun y => x ++ y := by
  unfold lx
  rw [lxF, if_neg hl]
  cases ha : nextL l with
  | none => rfl
  | some x =>
    obtain ⟨x, q⟩ := x
    have := nextL_lt l x q hl ha
    simp only []
    rw [lxF_fuel l.length (q.length + 1) q (by omega) (by omega)]
/-- what Parse tells, off the pieces without places -/
def parseL (d : B) : Except Int (List B × List Node) :=
  if 65536 < d.length then .error 18 else if valid d = false then .error 15 else
  match lx d with
  | none => .error 15
  | some l => ((l.foldl St.stepP St.new).flush).tree
theorem fold_pc (ts : List Tok) : ∀ s, ts.foldl St.step s = (ts.map Tok.pc).foldl St.stepP s := by
  induction ts with
  | nil => intro s; rfl
  | cons t ts ih => intro s; simp only [List.foldl_cons, List.map_cons]; rw [ih]; rfl
theorem lex_L (d : B) : (lexF (d.length + 1) d 0).map (fun x => x.map Tok.pc) = lx d := by
  have h := lexF_L (d.length + 1) d 0 (by omega)
  rw [List.drop_zero] at h
  exact h
theorem parse_L (d : B) : parse d = parseL d := by
  unfold parse parseL lex
  by_cases h1 : 65536 < d.length
  · rw [if_pos h1, if_pos h1]
  rw [if_neg h1, if_neg h1]
  by_cases h2 : valid d = false
  · rw [if_pos h2, if_pos h2]
  rw [if_neg h2, if_neg h2, ← lex_L]
  cases lexF (d.length + 1) d 0 with
  | none => rfl
  | some l => simp only [Option.map_some]; rw [fold_pc]
end S
end Go.Proofs.Ytpfalkdkiffipaa
