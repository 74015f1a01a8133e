/- The law LexerWrites: the document it writes, and how that is read. -/
import Derived.Test.YtpfalkdkiffipaaW12a
import Derived.Test.YtpfalkdkiffipaaS12d
namespace Go.Proofs.Ytpfalkdkiffipaa
open Go.RowKit
set_option maxRecDepth 100000
attribute [local go_sem] byt_at byt_wrap
def cutv (i : Nat) (s : S.B) : S.B :=
  if i % 2 = 1 ∧ (39 : UInt8) ∈ (if S.valid (s.take 10) then s.take 10 else [118]) then [119] else if S.valid (s.take 10) then s.take 10 else [118]
def item (names : S.B) (values : List ByteArray) (i : Nat) : UInt8 × S.B := (names.getD i 0, cutv i (values.getD i ByteArray.empty).data.toList)
def items (names : S.B) (values : List ByteArray) (k : Nat) : List (UInt8 × S.B) := (List.range k).map (item names values)
def wants (names : S.B) (values : List ByteArray) (k : Nat) : List Value := (items names values k).map fun y => .string ⟨y.2.toArray⟩
def calleds (names : S.B) (values : List ByteArray) (k : Nat) : List Value := (items names values k).map fun y => .string ⟨(S.nm y.1).toArray⟩
def spaceS (m : Int) : S.B := ([32, 10, 9] : S.B).take m.toNat
theorem infoStr : (Try.prog.info? 9).map (fun i => (i.zero, i.size, i.bytes)) = some (some (.string ⟨#[]⟩), 1, 16) := by kernel_rfl
theorem items_snoc (names : S.B) (values : List ByteArray) (k : Nat) : items names values (k + 1) = items names values k ++ [item names values k] := by unfold items; rw [List.range_succ, List.map_append]; rfl
theorem wants_snoc (names : S.B) (values : List ByteArray) (k : Nat) : wants names values (k + 1) = wants names values k ++ [.string ⟨(cutv k (values.getD k ByteArray.empty).data.toList).toArray⟩] := by unfold wants; rw [items_snoc, List.map_append]; rfl
theorem calleds_snoc (names : S.B) (values : List ByteArray) (k : Nat) : calleds names values (k + 1) = calleds names values k ++ [.string ⟨(S.nm (names.getD k 0)).toArray⟩] := by unfold calleds; rw [items_snoc, List.map_append]; rfl
theorem attrs_snoc (sp : S.B) (x : UInt8) (v : S.B) : ∀ (l : List (UInt8 × S.B)) (i : Nat), S.attrsText sp i (l ++ [(x, v)]) = S.attrsText sp i l ++ S.attrText sp (i + l.length) x v
  | [], i => by simp [S.attrsText]
  | (y, u) :: l, i => by rw [List.cons_append, S.attrsText, S.attrsText, attrs_snoc sp x v l (i + 1), List.append_assoc, List.length_cons]; rw [show i + 1 + l.length = i + (l.length + 1) from by omega]
theorem items_len (names : S.B) (values : List ByteArray) (k : Nat) : (items names values k).length = k := by simp [items]
/-- the document so far -/
def DocAt (names : S.B) (values : List ByteArray) (sp : S.B) (k : Nat) (v : Value) : Prop := ∃ d : S.B, v = .string ⟨d.toArray⟩ ∧ Hid (d = 60 :: 116 :: S.attrsText sp 0 (items names values k)) ∧ d.length ≤ 2 + k * 200
theorem mk_list (V : ByteArray) : (⟨V.data.toList.toArray⟩ : ByteArray) = V := by simp
theorem doc_step (names : S.B) (values : List ByteArray) (sp : S.B) (k : Nat) (d : S.B) (c : UInt8) (V : ByteArray) (E : S.B) (q qk : UInt8) (hd : d = 60 :: 116 :: S.attrsText sp 0 (items names values k)) (hl : d.length ≤ 2 + k * 200) (hc : names.getD k 0 = c)
    (hv : cutv k (values.getD k ByteArray.empty).data.toList = V.data.toList) (hE : S.escape V.data.toList = E) (hEl : E.length ≤ 60) (hs : sp.length ≤ 3) (hq : q = qk) (hqk : qk = S.quote k) :
    DocAt names values sp (k + 1) (.string (((⟨d.toArray⟩ : ByteArray) ++ ⟨#[32]⟩ ++ ⟨sp.toArray⟩ ++ (⟨#[110]⟩ ++ ⟨#[S.u8 (97 + byt c % 26)]⟩) ++ ⟨sp.toArray⟩ ++ ⟨#[61]⟩ ++ ⟨sp.toArray⟩ ++ ⟨#[q]⟩ ++ ⟨E.toArray⟩ ++ ⟨#[q]⟩))) := by
  refine ⟨d ++ S.attrText sp k c V.data.toList, ?_, Lib.hid ?_, ?_⟩
  · apply congrArg Value.string
    apply ByteArray.ext
    apply Array.ext'
    simp only [append_list]
    rw [hq, hqk, ← hE]
    simp [S.attrText, S.nm, byt]
  · have hi : item names values k = (c, V.data.toList) := by unfold item; rw [hc, hv]
    rw [items_snoc, hi, attrs_snoc, items_len, Nat.zero_add, hd]; rfl
  · rw [List.length_append]; unfold S.attrText S.nm; simp only [List.length_cons, List.length_append, List.length_nil]; rw [hE]; omega
/-- the two rows so far -/
def RowsAt (names : S.B) (values : List ByteArray) (k : Nat) (want called : Value) (w1 wr : World) : Prop :=
  Below w1.heap.size w1 wr ∧ wr.ownsRow w1.heap.size 9 1 want k (wants names values k) ∧ wr.ownsRow w1.heap.size 9 1 called k (calleds names values k) ∧ (called.ownBlock = none ∨ called.ownBlock ≠ want.ownBlock)
theorem cut_fits (i : Nat) (s : S.B) (hi : i % 2 = 1) : (39 : UInt8) ∉ cutv i s := by
  unfold cutv
  generalize (if S.valid (s.take 10) then s.take 10 else [118]) = X
  split
  · decide
  · rename_i h; exact fun h2 => h ⟨hi, h2⟩
theorem cut_valid (i : Nat) (s : S.B) : S.valid (cutv i s) = true := by
  unfold cutv
  repeat' split
  all_goals first | assumption | decide
theorem fits_of : ∀ (l : List (UInt8 × S.B)) (i : Nat), (∀ j x v, l[j]? = some (x, v) → (i + j) % 2 = 1 → (39 : UInt8) ∉ v) → S.Fits i l
  | [], _, _ => trivial
  | (x, v) :: l, i, h => ⟨fun hi => h 0 x v rfl (by simpa using hi), fits_of l (i + 1) fun j x v hj hp => h (j + 1) x v (by simpa using hj) (by rw [← hp]; congr 1; omega)⟩
theorem items_get (names : S.B) (values : List ByteArray) (k j : Nat) (hj : j < k) : (items names values k)[j]? = some (item names values j) := by simp [items, hj]
theorem items_fits (names : S.B) (values : List ByteArray) (k : Nat) : S.Fits 0 (items names values k) := fits_of _ _ fun j x v hj hp => by
  have hlt : j < k := by have := (List.getElem?_eq_some_iff.1 hj).1; rwa [items_len] at this
  rw [items_get _ _ _ _ hlt] at hj
  simp only [Option.some.injEq, item, Prod.mk.injEq] at hj
  rw [← hj.2]
  exact cut_fits _ _ (by simpa using hp)
theorem items_valid (names : S.B) (values : List ByteArray) (k : Nat) : ∀ y ∈ items names values k, S.valid y.2 = true := by
  intro y hy
  simp only [items, List.mem_map] at hy
  obtain ⟨i, _, rfl⟩ := hy
  exact cut_valid _ _
theorem matches_facts (e : Bool) : ∀ (l : List (UInt8 × S.B)) (ts : List S.Tok), S.Matches e ts l → ts.length = l.length + 1 ∧ (∀ (i : Nat) (x : UInt8) (v : S.B), l[i]? = some (x, v) → ∃ t : S.Tok, ts[i]? = some t ∧ t.kind = 2 ∧ t.name = S.nm x ∧ t.value = v) ∧ ∃ t : S.Tok, ts[l.length]? = some t ∧ t.kind = if e then 4 else 3
  | [], ts, h => by
    obtain ⟨t, rfl, ht⟩ := h
    exact ⟨rfl, fun i x v hi => by simp at hi, t, rfl, ht⟩
  | (x, v) :: l, ts, h => by
    obtain ⟨t, ts', rfl, h1, h2, h3, h4⟩ := h
    obtain ⟨h5, h6, t', h7, h8⟩ := matches_facts e l ts' h4
    refine ⟨by simp [h5], ?_, t', by simpa using h7, h8⟩
    intro i y u hi
    cases i with
    | zero => simp at hi; obtain ⟨rfl, rfl⟩ := hi; exact ⟨t, rfl, h1, h2, h3⟩
    | succ i => exact h6 i y u (by simpa using hi)
theorem toks_at (ts : List S.Tok) : ∀ (i j : Nat) (t : S.Tok), ts[i]? = some t → j < 5 → (toksCells ts)[i * 5 + j]? = (tokCells t)[j]? := by
  induction ts with
  | nil => intro i j t h; simp at h
  | cons a ts ih =>
    intro i j t h hj
    have hc : toksCells (a :: ts) = tokCells a ++ toksCells ts := by simp [toksCells]
    have hl : (tokCells a).length = 5 := rfl
    rw [hc]
    cases i with
    | zero => simp at h; subst h; rw [List.getElem?_append_left (by omega)]; simp
    | succ i =>
      rw [List.getElem?_append_right (by omega), ← ih i j t (by simpa using h) hj, hl]
      congr 1; omega
/-- the pieces of a written tag, as cells: the first, the attributes, the last -/
def TagAt (e : Bool) (names : S.B) (values : List ByteArray) (k : Nat) (v : Value) (base : Nat) (w : World) : Prop :=
  ∃ g cap, v = .slice (some ⟨g, 0, none⟩) (k + 2) cap ∧ base ≤ g ∧ g < w.heap.size ∧ w.cell? ⟨g, 3, none⟩ = some (.string ⟨#[116]⟩) ∧ w.cell? ⟨g, (k + 1) * 5, none⟩ = some (.int .i64 (if e then 4 else 3)) ∧
    ∀ i, i < k → w.cell? ⟨g, (i + 1) * 5, none⟩ = some (.int .i64 2) ∧ w.cell? ⟨g, (i + 1) * 5 + 3, none⟩ = some (.string ⟨(S.nm (names.getD i 0)).toArray⟩) ∧ w.cell? ⟨g, (i + 1) * 5 + 4, none⟩ = some (.string ⟨(cutv i (values.getD i ByteArray.empty).data.toList).toArray⟩)
theorem lex_doc (e : Bool) (names : S.B) (values : List ByteArray) (sp d : S.B) (k : Nat) (doc : ByteArray) (w : World) (hG : G w) (hsp : ∀ c ∈ sp, S.isSpace c = true) (hs : sp.length ≤ 3) (hk : k ≤ 6)
    (hd : d = 60 :: 116 :: S.attrsText sp 0 (items names values k)) (hl : d.length ≤ 2 + k * 200) (hdoc : doc.data.toList = d ++ sp ++ (if e then [47, 62] else [62])) :
    Calls Try.prog 11 #[.string doc] w fun r w' => Below w.heap.size w w' ∧ ∃ v, r = .returned (.tuple #[v, .int .i64 0]) ∧ TagAt e names values k v w.heap.size w' := by
  refine (lex_any doc w hG).mono ?_
  rintro r w' ⟨hb, hm⟩
  refine ⟨hb, ?_⟩
  have hdt : doc.data.toList = S.docText sp (items names values k) e := by rw [hdoc, hd]; unfold S.docText S.endText; simp
  have hlen : (S.docText sp (items names values k) e).length ≤ 65536 := by rw [← hdt, hdoc]; simp only [List.length_append]; split <;> simp <;> omega
  obtain ⟨ts, h1, h2⟩ := S.lex_text sp (items names values k) e hsp (items_fits _ _ _) (items_valid _ _ _) hlen
  rw [hdt, h1] at hm
  obtain ⟨v, rfl, ho⟩ := hm
  obtain ⟨h3, h4, t, h5, h6⟩ := matches_facts e _ _ h2
  rw [items_len] at h3 h5
  obtain ⟨g, cap, rfl, hg1, hg2, hc⟩ := own_cells ho (by simp)
  refine ⟨_, rfl, g, cap, by rw [List.length_cons, h3], hg1, hg2, ?_, ?_, ?_⟩
  · exact hc 3 _ rfl
  · refine hc _ _ ?_
    have := toks_at (⟨1, 0, 2, [116], []⟩ :: ts) (k + 1) 0 t (by simpa using h5) (by omega)
    rw [Nat.add_zero] at this
    rw [this, ← h6]; rfl
  · intro i hi
    obtain ⟨t, e1, e2, e3, e4⟩ := h4 i _ _ (items_get names values k i hi)
    have e0 : (⟨1, 0, 2, [116], []⟩ :: ts : List S.Tok)[i + 1]? = some t := by simpa using e1
    refine ⟨hc _ _ ?_, hc _ _ ?_, hc _ _ ?_⟩
    · have := toks_at _ (i + 1) 0 t e0 (by omega)
      rw [Nat.add_zero] at this
      rw [this, ← e2]; rfl
    · rw [toks_at _ (i + 1) 3 t e0 (by omega), ← e3]; rfl
    · rw [toks_at _ (i + 1) 4 t e0 (by omega), ← e4]; rfl
theorem row_form {w : World} {base E n : Nat} {v : Value} {xs : List Value} (h : w.ownsRow base E 1 v n xs) : ∃ a cap, v = .slice a n cap ∧ ∀ (i : Nat) (x : Value), xs[i]? = some x → ∃ g, a = some ⟨g, 0, none⟩ ∧ g < w.heap.size ∧ w.cell? ⟨g, i, none⟩ = some x := by
  by_cases hn : n = 0
  · have hx : xs = [] := by have := h.1; rw [hn] at this; simpa using this
    rcases h.2 with ⟨rfl, _⟩ | ⟨g, cap, cur, rfl, _⟩
    · exact ⟨none, 0, by rw [hn], fun i x hi => by rw [hx] at hi; simp at hi⟩
    · exact ⟨_, cap, rfl, fun i x hi => by rw [hx] at hi; simp at hi⟩
  · obtain ⟨g, cap, rfl, _, h2, h3⟩ := own_cells h hn
    exact ⟨_, cap, rfl, fun i x hi => ⟨g, rfl, h2, h3 i x hi⟩⟩
theorem wants_get (names : S.B) (values : List ByteArray) (k i : Nat) (h : i < k) : (wants names values k)[i]? = some (.string ⟨(cutv i (values.getD i ByteArray.empty).data.toList).toArray⟩) := by unfold wants; rw [List.getElem?_map, items_get _ _ _ _ h]; rfl
theorem calleds_get (names : S.B) (values : List ByteArray) (k i : Nat) (h : i < k) : (calleds names values k)[i]? = some (.string ⟨(S.nm (names.getD i 0)).toArray⟩) := by unfold calleds; rw [List.getElem?_map, items_get _ _ _ _ h]; rfl
end Go.Proofs.Ytpfalkdkiffipaa
