/- The parser's builder in memory: the closures of tree. -/
import Derived.Test.YtpfalkdkiffipaaP13f
import Derived.Maps.Own
import Derived.Maps.OwnSet
import Derived.StringKeys
namespace Go.Proofs.Ytpfalkdkiffipaa
open Go.RowKit Go.Maps
set_option maxRecDepth 100000
attribute [local go_sem] byt_at byt_wrap cell_lit
theorem strKeyed : Keyed Try.prog 9 := string_keyed Try.underlying9
theorem zeroInt (w : World) : (zeroValue 3).run Try.prog w = .ok (.int .i64 0) w := by kernel_rfl
/-- the map 'numbers': block M, of at most n entries, reads as D -/
abbrev Nums (M n : Nat) (D : DataW Unit) (w : World) : Prop := w.ownsMap Try.prog 9 (plainElem Try.prog 3) M n D
theorem key_str (x : S.B) (h : x.length ≤ 1000000000) : keyOf Try.prog 9 (.string ⟨x.toArray⟩) = some (.string x) := by
  have := Go.WideMaps.keyOf_string_mk (P := Try.prog) Try.underlying9 (s := ⟨x.toArray⟩) (by rw [size_mk]; unfold maxLen; omega)
  simpa using this
theorem nodeCells_len (n : S.Node) : (nodeCells n).length = 4 := rfl
theorem nodesCells_len (l : List S.Node) : (nodesCells l).length = l.length * 4 := by
  induction l with
  | nil => rfl
  | cons n l ih => simp only [nodesCells, List.flatMap_cons, List.length_append, List.length_cons] at *; rw [ih]; simp [nodeCells]; omega
theorem nodes_at : ∀ (l : List S.Node) (k j : Nat), j < 4 → (nodesCells l)[k * 4 + j]? = (l[k]?).bind fun n => (nodeCells n)[j]?
  | [], k, j, _ => by simp [nodesCells]
  | n :: l, 0, j, hj => by
    show (nodeCells n ++ nodesCells l)[0 * 4 + j]? = _
    rw [List.getElem?_append_left (by rw [nodeCells_len]; omega)]; simp
  | n :: l, k + 1, j, hj => by
    show (nodeCells n ++ nodesCells l)[(k + 1) * 4 + j]? = _
    rw [List.getElem?_append_right (by rw [nodeCells_len]; omega), nodeCells_len, show (k + 1) * 4 + j - 4 = k * 4 + j from by omega, nodes_at l k j hj]; simp
theorem nodes_set : ∀ (l : List S.Node) (k : Nat) (c : Int), k < l.length → (nodesCells l).set (k * 4 + 1) (.int .i64 c) = nodesCells (l.modify k fun n => { n with name := c })
  | [], k, c, h => by simp at h
  | n :: l, 0, c, h => rfl
  | n :: l, k + 1, c, h => by
    show (nodeCells n ++ nodesCells l).set ((k + 1) * 4 + 1) _ = nodeCells n ++ nodesCells (l.modify k fun n => { n with name := c })
    rw [List.set_append_right _ _ (by rw [nodeCells_len]; omega), nodeCells_len, show (k + 1) * 4 + 1 - 4 = k * 4 + 1 from by omega, nodes_set l k c (by simpa using h)]
theorem row_store {w : World} {base E size n g cap j : Nat} {xs : List Value} {u : Value} (h : w.ownsRow base E size (.slice (some ⟨g, 0, none⟩) n cap) n xs) (hj : j < n * size) :
    (w.setCell ⟨g, j, none⟩ u).ownsRow base E size (.slice (some ⟨g, 0, none⟩) n cap) n (xs.set j u) := by
  obtain ⟨h1, h2⟩ := h
  refine ⟨by simp [h1], ?_⟩
  rcases h2 with ⟨hv, _⟩ | ⟨g', cap', cur, hv, hg, hb, hc, hm, hz, ht⟩
  · simp at hv
  · simp only [Value.slice.injEq, Option.some.injEq, Addr.mk.injEq, and_true, true_and] at hv
    obtain ⟨rfl, rfl⟩ := hv
    refine .inr ⟨g, cap, cur.setIfInBounds j u, rfl, hg, block_set hb j u, hc, hm, by simpa using hz, ?_⟩
    rw [Array.toList_setIfInBounds, List.take_set, ht]
/-- a row of nodes: how its slice looks, its cells -/
theorem row_nodes {w : World} {base n : Nat} {v : Value} {l : List S.Node} (h : w.ownsRow base 44 4 v n (nodesCells l)) (hn : n = l.length) (h0 : 0 < n) :
    ∃ g cap, v = .slice (some ⟨g, 0, none⟩) n cap ∧ n ≤ cap ∧ g < w.heap.size ∧ (∀ j, w.frozen? ⟨g, j, none⟩ = false) ∧ ∀ (k : Nat) (x : S.Node), l[k]? = some x → w.cell? ⟨g, k * 4, none⟩ = some (.int .i64 x.kind) ∧ w.cell? ⟨g, k * 4 + 1, none⟩ = some (.int .i64 x.name) ∧ w.cell? ⟨g, k * 4 + 2, none⟩ = some (.int .i64 x.parent) ∧ w.cell? ⟨g, k * 4 + 3, none⟩ = some (.string ⟨x.value.toArray⟩) := by
  obtain ⟨h1, h2⟩ := h
  rcases h2 with ⟨rfl, hz⟩ | ⟨g, cap, cur, rfl, hg, hb, hc, hm, hz, ht⟩
  · omega
  · refine ⟨g, cap, rfl, hc, lt_of_block hb, fun j => block_free hb j, fun k x hk => ?_⟩
    have hlt : k < l.length := (List.getElem?_eq_some_iff.1 hk).1
    have key : ∀ j, j < 4 → w.cell? ⟨g, k * 4 + j, none⟩ = (nodeCells x)[j]? := fun j hj => by
      rw [block_cell hb]
      have e : cur[k * 4 + j]? = (nodesCells l)[k * 4 + j]? := by
        rw [← ht, List.getElem?_take_of_lt (by omega)]; simp
      rw [e, nodes_at l k j hj, hk]; rfl
    exact ⟨key 0 (by omega), key 1 (by omega), key 2 (by omega), key 3 (by omega)⟩
set_option maxHeartbeats 4000000 in
theorem zero_any (i N B b M nn : Nat) (s : S.St) (D : DataW Unit) (w : World) (hN : w.cell? ⟨N, 0, none⟩ = some (.map (some M))) (hB : w.cell? ⟨B, 0, none⟩ = some (.pointer (some ⟨b, 0, none⟩))) (h : Bd b s w)
    (hi : i < s.names.length) (hl : s.names.length ≤ 1000000) (hx : (s.names.getD i []).length ≤ 1000000000) (hown : Nums M nn D w) (hnn : nn ≤ 1000000) :
    Calls Try.prog 40 #[.int .i64 i, .pointer (some ⟨N, 0, none⟩), .pointer (some ⟨B, 0, none⟩)] w fun e w' => e = .returned (.tuple #[]) ∧ Nums M (nn + 1) (D.put (.string (s.names.getD i [])) (.lit (.int .i64 0))) w' ∧ w.grownBy w' (some M) := by
  obtain ⟨vn, vm, vo, h⟩ := h
  obtain ⟨c0, c1, c2, c3, c4, c5⟩ := h.cells
  obtain ⟨g, cap, rfl, hcell⟩ := row_name h.names rfl i hi
  have hkey := key_str _ hx
  have hi0 : (0 : Int) ≤ (i : Int) := by omega
  have hi1 : (i : Int) < (s.names.length : Int) := by omega
  have HO := Lib.hid hown
  clear c0 c2 c3 c4 c5 h hown hx
  generalize s.names.getD i [] = x at *
  have HK := Lib.hid hkey; clear hkey
  go_enter Try.func40, Try.ntmps40
  go_wp2_with fail
  go_still_tail 8, (by kernel_rfl)
  refine wpList_mapUpdate_own _ rfl _ _ _ 67 rfl 9 3 strKeyed Try.underlying67 _ M nn D rfl (by exact HO.out) (by unfold maxLen; omega) _ _ (.string x) rfl rfl HK.out (.lit (.int .i64 0)) [] (plainElem_int Try.underlying3 (by decide)) ?_
  intro w1 hown1 hgrow1
  go_wp2_with fail
  go_end0
  exact ⟨rfl, hown1, World.grownBy.trans (a := w) (b := w.drew) ⟨rfl, rfl, rfl, Nat.le_refl _, fun _ _ _ => rfl⟩ hgrow1⟩
set_option maxHeartbeats 4000000 in
theorem setname_any (i N B b M nn g cap : Nat) (c : Int) (s : S.St) (D : DataW Unit) (w : World) (vm vo : Value) (hN : w.cell? ⟨N, 0, none⟩ = some (.map (some M))) (hB : w.cell? ⟨B, 0, none⟩ = some (.pointer (some ⟨b, 0, none⟩)))
    (h : BdAt b s (.slice (some ⟨g, 0, none⟩) s.nodes.length cap) vm vo w) (hi : i < s.nodes.length) (hm : s.names.length = s.nodes.length) (hl : s.names.length ≤ 1000000) (hx : (s.names.getD i []).length ≤ 1000000000) (hown : Nums M nn D w)
    (hD : D.atKey (.string (s.names.getD i [])) (.lit (.int .i64 0)) = .lit (.int .i64 c)) :
    Calls Try.prog 43 #[.int .i64 i, .pointer (some ⟨N, 0, none⟩), .pointer (some ⟨B, 0, none⟩)] w fun e w' => e = .returned (.tuple #[]) ∧ w' = (w.drew).setCell ⟨g, i * 4 + 1, none⟩ (.int .i64 c) := by
  obtain ⟨c0, c1, c2, c3, c4, c5⟩ := h.cells
  obtain ⟨g2, cap2, rfl, hcell⟩ := row_name h.names rfl i (by omega)
  obtain ⟨g3, cap3, he, hcap, hg3, hfr, hnode⟩ := row_nodes h.nodes rfl (by omega)
  simp only [Value.slice.injEq, Option.some.injEq, Addr.mk.injEq, and_true, true_and] at he
  obtain ⟨rfl, rfl⟩ := he
  obtain ⟨n1, n2, n3, n4⟩ := hnode i s.nodes[i] (List.getElem?_eq_getElem hi)
  have f1 := hfr (i * 4 + 1)
  have hkey := key_str _ hx
  have hi0 : (0 : Int) ≤ (i : Int) := by omega
  have hi1 : (i : Int) < (s.names.length : Int) := by omega
  have hi2 : (i : Int) < (s.nodes.length : Int) := by omega
  have hlook := hown.lookup_int strKeyed Try.underlying67 Try.underlying3 (zeroInt w) hkey
  obtain ⟨c', hrun, hat, _⟩ := hlook
  have hcc : c' = c := by rw [hD] at hat; simpa using hat.symm
  subst hcc
  have hrun2 : (Instr.lookup 67 (.map (some M)) (.string ⟨(s.names.getD i []).toArray⟩) false).run Try.prog w.drew = .ok (.int .i64 c') w.drew := by
    have hl2 := (World.ownsMap.drew hown).lookup_int strKeyed Try.underlying67 Try.underlying3 (zeroInt w.drew) hkey
    obtain ⟨c2', hrun', hat', _⟩ := hl2
    have : c2' = c' := by rw [hD] at hat'; simpa using hat'.symm
    rw [← this]; exact hrun'
  clear c2 c3 c4 c5 h hx hown hat hrun hnode hfr n1 n3 n4 hkey
  generalize s.names.getD i [] = x at *
  go_enter Try.func43, Try.ntmps43
  go_wp2_with fail
  go_still_tail 16, (by kernel_rfl)
  go_wp2_with fail
  go_end0
  exact ⟨rfl, rfl⟩
end Go.Proofs.Ytpfalkdkiffipaa
