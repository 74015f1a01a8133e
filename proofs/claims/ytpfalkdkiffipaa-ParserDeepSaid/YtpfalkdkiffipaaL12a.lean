/- The lexer's reader in memory; its smallest steps. -/
import Derived.Test.YtpfalkdkiffipaaC11g
import Derived.Test.YtpfalkdkiffipaaS12
import Derived.OneCell
import Derived.Laws.AppendOwn
namespace Go.Proofs.Ytpfalkdkiffipaa
open Go.RowKit
set_option maxRecDepth 100000
attribute [local go_sem] byt_at byt_wrap
def tokCells (t : S.Tok) : List Value := [.int .i64 t.kind, .int .i64 t.from_, .int .i64 t.to_, .string ⟨t.name.toArray⟩, .string ⟨t.value.toArray⟩]
def toksCells (l : List S.Tok) : List Value := l.flatMap tokCells
theorem toksCells_snoc (l : List S.Tok) (t : S.Tok) : toksCells (l ++ [t]) = toksCells l ++ tokCells t := by simp [toksCells]
theorem toksCells_len (l : List S.Tok) : (toksCells l).length = l.length * 5 := by
  induction l with
  | nil => rfl
  | cons t l ih => simp only [toksCells, List.flatMap_cons, List.length_append, List.length_cons] at *; rw [ih]; simp [tokCells]; omega
/-- the reader at block b: its document, how far it is, its pieces (a row behind it), whether something was wrong -/
structure RdAt (b : Nat) (doc : ByteArray) (at_ : Int) (v : Value) (ts : List S.Tok) (wr : Bool) (w : World) : Prop where
  block : w.heap[b]? = some (.cells #[.string doc, .int .i64 at_, v, .bool wr] 52 (0, 0))
  own : w.ownsRow (b + 1) 35 5 v ts.length (toksCells ts)
def Rd (b : Nat) (doc : ByteArray) (at_ : Int) (ts : List S.Tok) (wr : Bool) (w : World) : Prop := ∃ v, RdAt b doc at_ v ts wr w
theorem lt_of_block {w : World} {b : Nat} {o : Obj} (h : w.heap[b]? = some o) : b < w.heap.size := by
  rcases Nat.lt_or_ge b w.heap.size with h' | h'
  · exact h'
  · simp [Array.getElem?_eq_none h'] at h
theorem block_cell {w : World} {b : Nat} {C : Array Value} {T : TypeId} {fr : Nat × Nat} (h : w.heap[b]? = some (.cells C T fr)) (i : Nat) : w.cell? ⟨b, i, none⟩ = C[i]? := by
  simp [World.cell?, h]
theorem block_free {w : World} {b : Nat} {C : Array Value} {T : TypeId} (h : w.heap[b]? = some (.cells C T (0, 0))) (i : Nat) : w.frozen? ⟨b, i, none⟩ = false := by
  simp [World.frozen?, h]
theorem block_set {w : World} {b : Nat} {C : Array Value} {T : TypeId} {fr : Nat × Nat} (h : w.heap[b]? = some (.cells C T fr)) (i : Nat) (u : Value) : (w.setCell ⟨b, i, none⟩ u).heap[b]? = some (.cells (C.setIfInBounds i u) T fr) := by
  have hb := lt_of_block h
  rw [Array.getElem?_eq_getElem hb] at h
  simp only [Option.some.injEq] at h
  simp only [World.setCell]
  rw [Array.getElem?_modify, if_pos rfl, Array.getElem?_eq_getElem hb, h]
  rfl
theorem owns_keep {w w' : World} {base E size n : Nat} {v : Value} {xs : List Value} (h : w.ownsRow base E size v n xs) (hk : ∀ g, base ≤ g → g < w.heap.size → w'.heap[g]? = w.heap[g]?) : w'.ownsRow base E size v n xs := by
  obtain ⟨h1, h2⟩ := h
  refine ⟨h1, ?_⟩
  rcases h2 with h2 | ⟨g, cap, cur, h3, h4, h5, h6⟩
  · exact .inl h2
  · exact .inr ⟨g, cap, cur, h3, h4, by rw [hk g h4 (lt_of_block h5)]; exact h5, h6⟩
theorem RdAt.ext {b : Nat} {doc : ByteArray} {at_ : Int} {v : Value} {ts : List S.Tok} {wr : Bool} {w w' : World} (h : RdAt b doc at_ v ts wr w) (hb : Below w.heap.size w w') : RdAt b doc at_ v ts wr w' :=
  ⟨by rw [hb.block b (lt_of_block h.block)]; exact h.block, owns_keep h.own fun g _ hg => hb.block g hg⟩
theorem Rd.ext {b : Nat} {doc : ByteArray} {at_ : Int} {ts : List S.Tok} {wr : Bool} {w w' : World} (h : Rd b doc at_ ts wr w) (hb : Below w.heap.size w w') : Rd b doc at_ ts wr w' := let ⟨v, h⟩ := h; ⟨v, h.ext hb⟩

/-- the reader's cells, as the walk reads them -/
theorem RdAt.cells {b : Nat} {doc : ByteArray} {at_ : Int} {v : Value} {ts : List S.Tok} {wr : Bool} {w : World} (h : RdAt b doc at_ v ts wr w) :
    w.cell? ⟨b, 0, none⟩ = some (.string doc) ∧ w.cell? ⟨b, 1, none⟩ = some (.int .i64 at_) ∧ w.cell? ⟨b, 2, none⟩ = some v ∧ w.cell? ⟨b, 3, none⟩ = some (.bool wr) :=
  ⟨block_cell h.block 0, block_cell h.block 1, block_cell h.block 2, block_cell h.block 3⟩
theorem RdAt.free {b : Nat} {doc : ByteArray} {at_ : Int} {v : Value} {ts : List S.Tok} {wr : Bool} {w : World} (h : RdAt b doc at_ v ts wr w) (i : Nat) : w.frozen? ⟨b, i, none⟩ = false := block_free h.block i

set_option maxHeartbeats 400000 in
theorem left_any (b : Nat) (doc : ByteArray) (at_ : Int) (ts : List S.Tok) (wr : Bool) (w : World) (h : Rd b doc at_ ts wr w) (h0 : 0 ≤ at_) (h1 : at_ ≤ doc.size) :
    Calls Try.prog 49 #[.pointer (some ⟨b, 0, none⟩)] w fun e w' => e = .returned (.string (doc.extract at_.toNat doc.size)) ∧ ∃ n, w' = w.drewN n := by
  obtain ⟨v, h⟩ := h
  obtain ⟨c0, c1, c2, c3⟩ := h.cells
  go_enter Try.func49, Try.ntmps49
  go_wp2
  go_quiet (fail)
  go_wp2
  go_ret
  exact ⟨rfl, _, rfl⟩
set_option maxHeartbeats 400000 in
theorem fails_any (b : Nat) (doc : ByteArray) (at_ : Int) (ts : List S.Tok) (wr : Bool) (w : World) (h : Rd b doc at_ ts wr w) :
    Calls Try.prog 51 #[.pointer (some ⟨b, 0, none⟩)] w fun e w' => e = .returned (.tuple #[]) ∧ Rd b doc at_ ts true w' ∧ Below b w w' := by
  obtain ⟨v, h⟩ := h
  obtain ⟨c0, c1, c2, c3⟩ := h.cells
  have f3 := h.free 3
  have H := Lib.hid h; clear h
  go_enter Try.func51, Try.ntmps51
  go_wp2
  go_end0
  have hb : Below b w (w.setCell ⟨b, 3, none⟩ (.bool true)) := (Below.refl _ _).setCell (p := ⟨b, 3, none⟩) (Nat.le_refl _) _
  exact ⟨rfl, ⟨v, block_set H.out.block 3 _, owns_keep H.out.own fun g hg _ => Below.heap_setCell _ _ _ _ (by simp; omega)⟩, hb⟩
set_option maxHeartbeats 400000 in
theorem stands_any (b : Nat) (doc s : ByteArray) (i at_ : Int) (ts : List S.Tok) (wr : Bool) (w : World) (h : Rd b doc at_ ts wr w) (h0 : 0 ≤ i) (h1 : i ≤ doc.size) :
    Calls Try.prog 30 #[.pointer (some ⟨b, 0, none⟩), .int .i64 i, .string s] w fun e w' => e = .returned (.bool (Lib.hasPrefix (doc.data.toList.drop i.toNat) s.data.toList)) ∧ ∃ n, w' = w.drewN n := by
  obtain ⟨v, h⟩ := h
  obtain ⟨c0, c1, c2, c3⟩ := h.cells
  have hp := fun w1 => Try.strings_HasPrefix (doc.extract i.toNat doc.size) s w1
  rw [drop_list] at hp
  have hmin : min i (doc.size : Int) = i := by omega
  have HP := Lib.hid hp; clear hp
  go_enter Try.func30, Try.ntmps30
  go_wp2
  go_quiet ((go_at_call 48; exact Calls.quiet_of_same (HP.out _)))
  go_wp2
  go_ret
  exact ⟨rfl, _, rfl⟩
end Go.Proofs.Ytpfalkdkiffipaa
