/- The parser's builder in memory: top. -/
import Derived.Test.YtpfalkdkiffipaaL12k
import Derived.Test.YtpfalkdkiffipaaS13
import Derived.Deep.AppendLies
namespace Go.Proofs.Ytpfalkdkiffipaa
open Go.RowKit
set_option maxRecDepth 100000
attribute [local go_sem] byt_at byt_wrap
def nodeCells (n : S.Node) : List Value := [.int .i64 n.kind, .int .i64 n.name, .int .i64 n.parent, .string ⟨n.value.toArray⟩]
def nodesCells (l : List S.Node) : List Value := l.flatMap nodeCells
def strs (l : List S.B) : List Value := l.map fun x => .string ⟨x.toArray⟩
def ints (l : List Int) : List Value := l.map fun x => .int .i64 x
/-- two values own no block together -/
def Apart (u v : Value) : Prop := ∀ g, u.ownBlock = some g → v.ownBlock ≠ some g
theorem Apart.symm {u v : Value} (h : Apart u v) : Apart v u := fun g hg hu => h g hu hg
structure BdAt (b : Nat) (s : S.St) (vn vm vo : Value) (w : World) : Prop where
  block : w.heap[b]? = some (.cells #[vn, vm, vo, .string ⟨s.text.toArray⟩, .bool s.deep, .bool s.wrong] 57 (0, 0))
  nodes : w.ownsRow (b + 1) 44 4 vn s.nodes.length (nodesCells s.nodes)
  names : w.ownsRow (b + 1) 9 1 vm s.names.length (strs s.names)
  opn : w.ownsRow (b + 1) 3 1 vo s.opn.length (ints s.opn)
  nm : Apart vn vm
  no : Apart vn vo
  mo : Apart vm vo
def Bd (b : Nat) (s : S.St) (w : World) : Prop := ∃ vn vm vo, BdAt b s vn vm vo w
theorem BdAt.cells {b : Nat} {s : S.St} {vn vm vo : Value} {w : World} (h : BdAt b s vn vm vo w) :
    w.cell? ⟨b, 0, none⟩ = some vn ∧ w.cell? ⟨b, 1, none⟩ = some vm ∧ w.cell? ⟨b, 2, none⟩ = some vo ∧ w.cell? ⟨b, 3, none⟩ = some (.string ⟨s.text.toArray⟩) ∧ w.cell? ⟨b, 4, none⟩ = some (.bool s.deep) ∧ w.cell? ⟨b, 5, none⟩ = some (.bool s.wrong) :=
  ⟨block_cell h.block 0, block_cell h.block 1, block_cell h.block 2, block_cell h.block 3, block_cell h.block 4, block_cell h.block 5⟩
theorem BdAt.ext {b : Nat} {s : S.St} {vn vm vo : Value} {w w' : World} (h : BdAt b s vn vm vo w) (hb : Below w.heap.size w w') : BdAt b s vn vm vo w' :=
  ⟨by rw [hb.block b (lt_of_block h.block)]; exact h.block, owns_keep h.nodes fun g _ hg => hb.block g hg, owns_keep h.names fun g _ hg => hb.block g hg, owns_keep h.opn fun g _ hg => hb.block g hg, h.nm, h.no, h.mo⟩
theorem row_at {w : World} {base E n : Nat} {v : Value} {xs : List Value} (h : w.ownsRow base E 1 v n xs) : ∃ a cap, v = .slice a n cap ∧ ∀ (i : Nat) (x : Value), xs[i]? = some x → ∃ g, a = some ⟨g, 0, none⟩ ∧ g < w.heap.size ∧ w.cell? ⟨g, i, none⟩ = some x := by
  obtain ⟨h1, h2⟩ := h
  rcases h2 with ⟨rfl, hn⟩ | ⟨g, cap, cur, rfl, hg, hb, hc, hm, hz, ht⟩
  · have hx : xs = [] := by rw [hn] at h1; simpa using h1
    exact ⟨none, 0, by rw [hn], fun i x hi => by rw [hx] at hi; simp at hi⟩
  · refine ⟨_, cap, rfl, fun i x hi => ⟨g, rfl, lt_of_block hb, ?_⟩⟩
    rw [block_cell hb, ← hi, ← ht]
    have hlt : i < n * 1 := by rw [← h1]; exact (List.getElem?_eq_some_iff.1 hi).1
    rw [List.getElem?_take_of_lt hlt]; simp
set_option maxHeartbeats 400000 in
theorem top_any (b : Nat) (s : S.St) (w : World) (h : Bd b s w) (hs : s.opn.length ≤ 1000000) :
    Calls Try.prog 23 #[.pointer (some ⟨b, 0, none⟩)] w fun e w' => e = .returned (.int .i64 s.top) ∧ ∃ n, w' = w.drewN n := by
  obtain ⟨vn, vm, vo, h⟩ := h
  obtain ⟨c0, c1, c2, c3, c4, c5⟩ := h.cells
  obtain ⟨a, cap, rfl, hc⟩ := row_at h.opn
  have HC := Lib.hid hc; clear hc
  clear h c0 c1 c3 c4 c5
  by_cases h0 : s.opn = []
  · have hl : s.opn.length = 0 := by simp [h0]
    have ht : Hid (s.top = -1) := Lib.hid (by unfold S.St.top; rw [h0]; rfl)
    rw [hl] at c2
    clear h0 hl
    go_enter Try.func23, Try.ntmps23
    go_wp2
    go_ret
    exact ⟨by rw [ht.out]; rfl, 0, rfl⟩
  · have hl : 0 < s.opn.length := List.length_pos_iff.2 h0
    have hg : s.opn[s.opn.length - 1]? = some s.top := by unfold S.St.top; rw [← List.getLast?_eq_getElem?, List.getLast?_eq_some_getLast h0]; rfl
    obtain ⟨g, rfl, hlt, cc⟩ := HC.out (s.opn.length - 1) (.int .i64 s.top) (by unfold ints; rw [List.getElem?_map, hg]; rfl)
    generalize s.top = x at *
    generalize s.opn.length = n at *
    clear h0 hg HC
    go_enter Try.func23, Try.ntmps23
    go_wp2
    go_quiet (fail)
    go_wp2
    go_ret
    exact ⟨rfl, _, rfl⟩
end Go.Proofs.Ytpfalkdkiffipaa
