/- The lexer's reader: a piece is told. -/
import Derived.Test.YtpfalkdkiffipaaL12a
namespace Go.Proofs.Ytpfalkdkiffipaa
open Go.RowKit
set_option maxRecDepth 100000
attribute [local go_sem] byt_at byt_wrap
theorem own_ne {w : World} {b E size n : Nat} {v : Value} {xs : List Value} (h : w.ownsRow (b + 1) E size v n xs) : v.ownBlock ≠ some b := by
  obtain ⟨_, h⟩ := h
  rcases h with ⟨rfl, _⟩ | ⟨g, cap, cur, rfl, hg, _⟩
  · simp [Value.ownBlock]
  · simp [Value.ownBlock]; omega
theorem own_ge {w : World} {b E size n k : Nat} {v : Value} {xs : List Value} (h : w.ownsRow (b + 1) E size v n xs) (hk : v.ownBlock = some k) : b ≤ k := by
  obtain ⟨_, h⟩ := h
  rcases h with ⟨rfl, _⟩ | ⟨g, cap, cur, rfl, hg, _⟩
  · simp [Value.ownBlock] at hk
  · simp [Value.ownBlock] at hk; omega
theorem own_form {w : World} {base E size n : Nat} {v : Value} {xs : List Value} (h : w.ownsRow base E size v n xs) (hn : n ≠ 0) : ∃ g cap, v = .slice (some ⟨g, 0, none⟩) n cap := by
  obtain ⟨_, h⟩ := h
  rcases h with ⟨_, h⟩ | ⟨g, cap, cur, rfl, _⟩
  · exact absurd h hn
  · exact ⟨g, cap, rfl⟩
theorem grown_block {w w' : World} {row : Option Nat} (h : w.grownBy w' row) (k : Nat) (hk : k < w.heap.size) (hr : row ≠ some k) : w'.heap[k]? = w.heap[k]? := h.block k hk (fun e => hr e.symm)
theorem infoTok : (Try.prog.info? 35).map (fun i => (i.zero, i.size, i.bytes)) = some (some (.agg #[.int .i64 0, .int .i64 0, .int .i64 0, .string ⟨#[]⟩, .string ⟨#[]⟩]), 5, 56) := by kernel_rfl
set_option maxHeartbeats 1000000 in
theorem tell_any (b : Nat) (doc name value : ByteArray) (at_ kind from_ to_ : Int) (ts : List S.Tok) (wr : Bool) (w : World) (h : Rd b doc at_ ts wr w) (hn : ts.length ≤ 1000000) :
    Calls Try.prog 52 #[.pointer (some ⟨b, 0, none⟩), .int .i64 kind, .int .i64 from_, .int .i64 to_, .string name, .string value] w fun e w' => e = .returned (.tuple #[]) ∧ Rd b doc to_ (ts ++ [⟨kind, from_, to_, name.data.toList, value.data.toList⟩]) wr w' ∧ Below b w w' := by
  obtain ⟨v, h⟩ := h
  obtain ⟨c0, c1, c2, c3⟩ := h.cells
  have hlt := lt_of_block h.block
  have hown := h.own
  have H := Lib.hid h; clear h
  obtain ⟨i0, hi, hz0, hz1, hz2⟩ := info_parts infoTok
  go_enter Try.func52, Try.ntmps52
  go_wp2_with (at_builtin; refine wpList_append_own _ rfl _ _ 30 rfl (b + 1) 35 i0 _ 5 56 Try.underlying30 hi hz0 hz1 hz2 rfl (by decide) _ _ _ rfl (hown.alloc _) ⟨w.heap.size, 0, none⟩ 1 1 [.int .i64 kind, .int .i64 from_, .int .i64 to_, .string name, .string value] rfl rfl ?c1 ?c2 ?c3 ?c4 ?c5 ?_)
  case c1 =>
    intro j u hj
    have hj5 : j < 5 := (List.getElem?_eq_some_iff.1 hj).1
    have ha : (⟨w.heap.size, 0, none⟩ : Addr).add j = ⟨w.heap.size, j, none⟩ := by unfold Addr.add; split <;> simp_all
    rw [ha, World.cell?_alloc_new]
    simpa using hj
  case c2 => simp [Value.oneCell']
  case c3 => unfold maxLen; omega
  case c4 => omega
  case c5 => simp; omega
  intro v' w1 hown' hgrow _
  obtain ⟨g, cap, rfl⟩ := own_form hown' (by omega)
  have hrow : v.ownBlock ≠ some b := own_ne H.out.own
  have hB1 : w1.heap[b]? = some (.cells #[.string doc, .int .i64 at_, v, .bool wr] 52 (0, 0)) := by
    rw [grown_block hgrow b (by simp; omega) hrow, Below.heap_alloc _ _ _ hlt]; exact H.out.block
  have hbel : Below b w w1 := ((Below.refl b w).alloc (by omega) _).grown hgrow (by simp; omega) (fun k hk => own_ge H.out.own hk)
  have d0 := block_cell hB1 0
  have d1 := block_cell hB1 1
  have d2 := block_cell hB1 2
  have f1 := block_free hB1 1
  have f2 := block_free hB1 2
  have HB1 := Lib.hid hB1
  have HO := Lib.hid hown'
  have HBL := Lib.hid hbel
  clear hB1 hown' hgrow hbel hown c0 c1 c2 c3
  go_wp2
  go_end0
  refine ⟨rfl, ⟨.slice (some ⟨g, 0, none⟩) (ts.length + 1) cap, ?_, ?_⟩, ?_⟩
  · exact block_set (block_set HB1.out 2 _) 1 _
  · rw [toksCells_snoc]
    have hk := owns_keep (w' := (w1.setCell ⟨b, 2, none⟩ (.slice (some ⟨g, 0, none⟩) (ts.length + 1) cap)).setCell ⟨b, 1, none⟩ (.int .i64 to_)) HO.out fun g hg _ => by rw [Below.heap_setCell _ _ _ _ (by simp; omega), Below.heap_setCell _ _ _ _ (by simp; omega)]
    simpa [tokCells] using hk
  · exact (HBL.out.setCell (p := ⟨b, 2, none⟩) (Nat.le_refl _) _).setCell (p := ⟨b, 1, none⟩) (Nat.le_refl _) _
end Go.Proofs.Ytpfalkdkiffipaa
