/- The parser's builder in memory: put. -/
import Derived.Test.YtpfalkdkiffipaaP13a
import Derived.Deep.RegionHeld3
import Derived.Deep.DrawnRows
namespace Go.Proofs.Ytpfalkdkiffipaa
open Go.RowKit
set_option maxRecDepth 100000
attribute [local go_sem] byt_at byt_wrap cell_lit
theorem infoNode : (Try.prog.info? 44).map (fun i => (i.zero, i.size, i.bytes)) = some (some (.agg #[.int .i64 0, .int .i64 0, .int .i64 0, .string ⟨#[]⟩]), 4, 40) := by kernel_rfl
theorem infoStr : (Try.prog.info? 9).map (fun i => (i.zero, i.size, i.bytes)) = some (some (.string ⟨#[]⟩), 1, 16) := by kernel_rfl
theorem infoInt : (Try.prog.info? 3).map (fun i => (i.zero, i.size, i.bytes)) = some (some (.int .i64 0), 1, 8) := by kernel_rfl
theorem nodesCells_snoc (l : List S.Node) (n : S.Node) : nodesCells (l ++ [n]) = nodesCells l ++ nodeCells n := by simp [nodesCells]
theorem strs_snoc (l : List S.B) (x : S.B) : strs (l ++ [x]) = strs l ++ [.string ⟨x.toArray⟩] := by simp [strs]
theorem ints_snoc (l : List Int) (x : Int) : ints (l ++ [x]) = ints l ++ [.int .i64 x] := by simp [ints]
theorem Apart.or {u v : Value} (h : Apart u v) : v.ownBlock = none ∨ v.ownBlock ≠ u.ownBlock := by
  cases hu : v.ownBlock with
  | none => exact .inl rfl
  | some g => exact .inr fun e => h g e.symm hu
theorem apart_grown {w : World} {base E size n : Nat} {u v : Value} {g H : Nat} {xs : List Value} {k c : Nat} (h : Apart v u) (hu : w.ownsRow base E size u n xs) (hat : v.ownBlock = some g ∨ g = H) (hH : w.heap.size ≤ H) : Apart (.slice (some ⟨g, 0, none⟩) k c) u := by
  intro j hj hj2
  have hj : g = j := by simpa [Value.ownBlock] using hj
  subst hj
  rcases hat with hat | hat
  · exact h g hat hj2
  · have := hu.lt g hj2; omega
theorem own_ge1 {w : World} {b E size n k : Nat} {v : Value} {xs : List Value} (h : w.ownsRow (b + 1) E size v n xs) (hk : v.ownBlock = some k) : b + 1 ≤ k := (h.lt k hk).1
theorem row_set {w : World} {b E size n i : Nat} {v u : Value} {xs : List Value} (h : w.ownsRow (b + 1) E size v n xs) : (w.setCell ⟨b, i, none⟩ u).ownsRow (b + 1) E size v n xs :=
  owns_keep h fun g hg _ => Below.heap_setCell _ _ _ _ (by simp; omega)
/-- a row grew, and its new value was stored -/
theorem BdAt.nodes_grown {b g n cap k : Nat} {s : S.St} {x : S.Node} {vn vm vo : Value} {W w1 : World} {o : Obj} (h : BdAt b s vn vm vo W) (hg : (W.alloc o).drew.grownBy w1 vn.ownBlock)
    (hown : w1.ownsRow (b + 1) 44 4 (.slice (some ⟨g, 0, none⟩) n cap) n (nodesCells s.nodes ++ nodeCells x)) (hn : n = s.nodes.length + 1) (hat : vn.ownBlock = some g ∨ g = k) (hk : W.heap.size ≤ k) :
    BdAt b { s with nodes := s.nodes ++ [x] } (.slice (some ⟨g, 0, none⟩) n cap) vm vo (w1.setCell ⟨b, 0, none⟩ (.slice (some ⟨g, 0, none⟩) n cap)) := by
  have hlt := lt_of_block h.block
  have hblk : w1.heap[b]? = some (.cells #[vn, vm, vo, .string ⟨s.text.toArray⟩, .bool s.deep, .bool s.wrong] 57 (0, 0)) := by
    rw [hg.block b (by simp; omega) (Ne.symm (own_ne h.nodes))]
    exact (Below.heap_alloc W o b hlt).trans h.block
  refine ⟨block_set hblk 0 _, ?_, row_set ((h.names.alloc o).drew.kept hg h.nm.or), row_set ((h.opn.alloc o).drew.kept hg h.no.or), apart_grown h.nm h.names hat hk, apart_grown h.no h.opn hat hk, h.mo⟩
  have e : (s.nodes ++ [x]).length = n := by rw [hn]; simp
  show World.ownsRow _ _ _ 4 _ (s.nodes ++ [x]).length _
  rw [e, nodesCells_snoc]
  exact row_set hown
theorem BdAt.names_grown {b g n cap k : Nat} {s : S.St} {x : S.B} {vn vm vo : Value} {W w1 : World} {o : Obj} (h : BdAt b s vn vm vo W) (hg : (W.alloc o).grownBy w1 vm.ownBlock)
    (hown : w1.ownsRow (b + 1) 9 1 (.slice (some ⟨g, 0, none⟩) n cap) n (strs s.names ++ [.string ⟨x.toArray⟩])) (hn : n = s.names.length + 1) (hat : vm.ownBlock = some g ∨ g = k) (hk : W.heap.size ≤ k) :
    BdAt b { s with names := s.names ++ [x] } vn (.slice (some ⟨g, 0, none⟩) n cap) vo (w1.setCell ⟨b, 1, none⟩ (.slice (some ⟨g, 0, none⟩) n cap)) := by
  have hlt := lt_of_block h.block
  have hblk : w1.heap[b]? = some (.cells #[vn, vm, vo, .string ⟨s.text.toArray⟩, .bool s.deep, .bool s.wrong] 57 (0, 0)) := by
    rw [hg.block b (by simp; omega) (Ne.symm (own_ne h.names))]
    exact (Below.heap_alloc W o b hlt).trans h.block
  refine ⟨block_set hblk 1 _, row_set ((h.nodes.alloc o).kept hg h.nm.symm.or), ?_, row_set ((h.opn.alloc o).kept hg h.mo.or), (apart_grown h.nm.symm h.nodes hat hk).symm, h.no, apart_grown h.mo h.opn hat hk⟩
  have e : (s.names ++ [x]).length = n := by rw [hn]; simp
  show World.ownsRow _ _ _ 1 _ (s.names ++ [x]).length _
  rw [e, strs_snoc]
  exact row_set hown
theorem BdAt.opn_grown {b g n cap k : Nat} {s : S.St} {x : Int} {vn vm vo : Value} {W w1 : World} {o : Obj} (h : BdAt b s vn vm vo W) (hg : (W.alloc o).drew.grownBy w1 vo.ownBlock)
    (hown : w1.ownsRow (b + 1) 3 1 (.slice (some ⟨g, 0, none⟩) n cap) n (ints s.opn ++ [.int .i64 x])) (hn : n = s.opn.length + 1) (hat : vo.ownBlock = some g ∨ g = k) (hk : W.heap.size ≤ k) :
    BdAt b { s with opn := s.opn ++ [x] } vn vm (.slice (some ⟨g, 0, none⟩) n cap) (w1.setCell ⟨b, 2, none⟩ (.slice (some ⟨g, 0, none⟩) n cap)) := by
  have hlt := lt_of_block h.block
  have hblk : w1.heap[b]? = some (.cells #[vn, vm, vo, .string ⟨s.text.toArray⟩, .bool s.deep, .bool s.wrong] 57 (0, 0)) := by
    rw [hg.block b (by simp; omega) (Ne.symm (own_ne h.opn))]
    exact (Below.heap_alloc W o b hlt).trans h.block
  refine ⟨block_set hblk 2 _, row_set ((h.nodes.alloc o).drew.kept hg h.no.symm.or), row_set ((h.names.alloc o).drew.kept hg h.mo.symm.or), ?_, h.nm, (apart_grown h.no.symm h.nodes hat hk).symm, (apart_grown h.mo.symm h.names hat hk).symm⟩
  have e : (s.opn ++ [x]).length = n := by rw [hn]; simp
  show World.ownsRow _ _ _ 1 _ (s.opn ++ [x]).length _
  rw [e, ints_snoc]
  exact row_set hown
set_option maxHeartbeats 2000000 in
theorem put_any (b : Nat) (s : S.St) (kind name par : Int) (value nm : ByteArray) (w : World) (h : Bd b s w) (ho : s.opn.length ≤ 1000000) (hn : s.nodes.length ≤ 1000000) (hm : s.names.length ≤ 1000000) :
    Calls Try.prog 36 #[.pointer (some ⟨b, 0, none⟩), .agg #[.int .i64 kind, .int .i64 name, .int .i64 par, .string value], .string nm] w fun e w' => e = .returned (.tuple #[]) ∧ Bd b (s.put kind name value.data.toList nm.data.toList) w' ∧ Below b w w' := by
  obtain ⟨vn, vm, vo, h⟩ := h
  have hlt := lt_of_block h.block
  have H := Lib.hid h; clear h
  obtain ⟨i0, hi, hz0, hz1, hz2⟩ := info_parts infoNode
  obtain ⟨j0, hj, hy0, hy1, hy2⟩ := info_parts infoStr
  go_enter Try.func36, Try.ntmps36
  go_wp2_with fail
  refine (top_any b s _ ⟨vn, vm, vo, H.out.ext ((Below.refl _ _).alloc (Nat.le_refl _) _)⟩ ho).mono ?_
  rintro e w' ⟨rfl, n, rfl⟩
  go_wp2_with fail
  have hE1 : Below w.heap.size w (((w.alloc (.cells #[.int .i64 kind, .int .i64 name, .int .i64 par, .string value] 44)).drewN n).setCell ⟨w.heap.size, 2, none⟩ (.int .i64 s.top)) :=
    (Below.drewN ((Below.refl _ _).alloc (Nat.le_refl _) _) n).setCell (p := ⟨w.heap.size, 2, none⟩) (Nat.le_refl _) _
  have hN1 : (((w.alloc (.cells #[.int .i64 kind, .int .i64 name, .int .i64 par, .string value] 44)).drewN n).setCell ⟨w.heap.size, 2, none⟩ (.int .i64 s.top)).heap[w.heap.size]? = some (.cells #[.int .i64 kind, .int .i64 name, .int .i64 s.top, .string value] 44 (0, 0)) :=
    block_set (heap_new w _) 2 _
  have hZ1 : (((w.alloc (.cells #[.int .i64 kind, .int .i64 name, .int .i64 par, .string value] 44)).drewN n).setCell ⟨w.heap.size, 2, none⟩ (.int .i64 s.top)).heap.size = w.heap.size + 1 := by simp
  generalize (((w.alloc (.cells #[.int .i64 kind, .int .i64 name, .int .i64 par, .string value] 44)).drewN n).setCell ⟨w.heap.size, 2, none⟩ (.int .i64 s.top)) = W1 at *
  have hB1 := H.out.ext hE1
  have hE := Lib.hid (hE1.mono (Nat.le_of_lt hlt))
  have hnm : vn.ownBlock ≠ some w.heap.size := fun e => Nat.lt_irrefl _ (H.out.nodes.lt _ e).2
  have hmm : vm.ownBlock ≠ some w.heap.size := fun e => Nat.lt_irrefl _ (H.out.names.lt _ e).2
  generalize hm0 : w.heap.size = m at *
  have hbm : b ≠ m := by omega
  obtain ⟨c0, c1, c2, c3, c4, c5⟩ := hB1.cells
  have f0 := block_free hB1.block 0
  have d0 : W1.cell? ⟨m, 0, none⟩ = some (.int .i64 kind) := block_cell hN1 0
  have d1 : W1.cell? ⟨m, 1, none⟩ = some (.int .i64 name) := block_cell hN1 1
  have d2 : W1.cell? ⟨m, 2, none⟩ = some (.int .i64 s.top) := block_cell hN1 2
  have d3 : W1.cell? ⟨m, 3, none⟩ = some (.string value) := block_cell hN1 3
  have hown := hB1.nodes
  have hne : vn.ownBlock ≠ some b := own_ne hown
  have hfa : ∀ o : Obj, (W1.alloc o).drew.frozen? ⟨b, 0, none⟩ = false := fun o => by rw [← f0]; exact ((Below.refl W1.heap.size W1).alloc (Nat.le_refl _) o).frozen (p := ⟨b, 0, none⟩) (by simp; omega)
  have hca : ∀ o : Obj, (W1.alloc o).drew.cell? ⟨b, 0, none⟩ = some vn := fun o => by rw [← c0]; exact ((Below.refl W1.heap.size W1).alloc (Nat.le_refl _) o).cell (p := ⟨b, 0, none⟩) (by simp; omega)
  have hnew : ∀ o : Obj, (W1.alloc o).drew.heap[m + 1]? = some o := fun o => by rw [← hZ1]; exact heap_new W1 o
  have HB1 := Lib.hid hB1
  have HN1 := Lib.hid hN1
  clear hB1 hN1 hE1 c1 c2 c3 c4 c5 H hm0
  go_region_law
    ((refine step_append_lies _ (by rfl) _ _ _ (by rfl) (b + 1) 44 i0 _ 4 40 Try.underlying37 hi hz0 hz1 hz2 rfl (by omega) vn s.nodes.length (nodesCells s.nodes) (by rfl) ((hown.alloc _).drew)
        ⟨m + 1, 0, none⟩ 1 1 [.int .i64 kind, .int .i64 name, .int .i64 s.top, .string value] (by rfl) (by rfl) (World.news_of_block (cs := #[.int .i64 kind, .int .i64 name, .int .i64 s.top, .string value]) (t := 44) (fr := (0, 0)) (hnew _)) (by simp [Value.oneCell'])
        (by omega) (by unfold maxLen; omega) (by omega) (by simp; omega) (m + 2) (by simp; omega) ?_; intro g cap w1 hown1 hgrow hat hlt1; have e0 := (hgrow.cell_far ⟨b, 0, none⟩ (by simp; omega) (Ne.symm hne)).trans (hca _); have e1 := (hgrow.frozen_far ⟨b, 0, none⟩ (by simp; omega) (Ne.symm hne)).trans (hfa _)))
  all_goals
    have h2 := HB1.out.nodes_grown (x := ⟨kind, name, s.top, value.data.toList⟩) hgrow (by simpa [nodeCells] using hown1) rfl hat (by omega)
    have hb2 : Below b W1 (w1.setCell ⟨b, 0, none⟩ (.slice (some ⟨g, 0, none⟩) (s.nodes.length + 1) cap)) :=
      (Below.grown (Below.drew ((Below.refl b W1).alloc (by omega) _)) hgrow (by simp; omega) (fun k hk => own_ge hown hk)).setCell (p := ⟨b, 0, none⟩) (Nat.le_refl _) _
    have hz2 := hb2.size
    have hX : ∃ X, X = w1.setCell ⟨b, 0, none⟩ (.slice (some ⟨g, 0, none⟩) (s.nodes.length + 1) cap) := ⟨_, rfl⟩
    obtain ⟨X, hX⟩ := hX
    rw [← hX] at h2 hb2 hz2 ⊢
    obtain ⟨c0', c1, c2, c3, c4, c5⟩ := h2.cells
    have f1 := block_free h2.block 1
    have hltX := lt_of_block h2.block
    have hownm := h2.names
    have H2 := Lib.hid h2
    have HB2 := Lib.hid (hE.out.trans hb2)
    clear h2 hb2 hX hown1 hgrow hat e0 e1 hfa hca hnew c0 f0 d0 d1 d2 d3 hown c0' c2 c3 c4 c5 hne hnm hmm
    go_wp2_with (at_builtin; refine wpList_append_lies _ rfl _ _ _ rfl (b + 1) 9 j0 _ 1 16 Try.underlying23 hj hy0 hy1 hy2 rfl (by omega) vm s.names.length (strs s.names) rfl (hownm.alloc _) ⟨X.heap.size, 0, none⟩ 1 1 [.string nm] rfl rfl (World.news_of_block (cs := #[.string nm]) (t := 9) (fr := (0, 0)) (heap_alloc_new _ _)) (by simp [Value.oneCell']) (by omega) (by unfold maxLen; omega) (by omega) (by simp; omega) (X.heap.size + 1) (by simp) ?_)
    intro g2 cap2 w2 hown2 hgrow2 hat2 hlt2
    have h3 := H2.out.names_grown (x := nm.data.toList) hgrow2 hown2 rfl hat2 (Nat.le_succ _)
    have hb3 : Below b X (w2.setCell ⟨b, 1, none⟩ (.slice (some ⟨g2, 0, none⟩) (s.names.length + 1) cap2)) :=
      (Below.grown ((Below.refl b X).alloc (by omega) _) hgrow2 (by simp; omega) (fun k hk => own_ge hownm hk)).setCell (p := ⟨b, 1, none⟩) (Nat.le_refl _) _
    have x0 := (hgrow2.cell_far ⟨b, 1, none⟩ (by simp; omega) (Ne.symm (own_ne hownm))).trans (((Below.refl X.heap.size X).alloc (Nat.le_refl _) _).cell (p := ⟨b, 1, none⟩) hltX)
    have x1 := (hgrow2.frozen_far ⟨b, 1, none⟩ (by simp; omega) (Ne.symm (own_ne hownm))).trans (((Below.refl X.heap.size X).alloc (Nat.le_refl _) _).frozen (p := ⟨b, 1, none⟩) hltX)
    rw [c1] at x0
    rw [f1] at x1
    have H3 := Lib.hid h3
    have HB3 := Lib.hid (HB2.out.trans hb3)
    clear h3 hb3 hown2 hgrow2 hat2 c1 f1 hownm
    go_wp2
    go_end0
    exact ⟨rfl, ⟨_, _, _, H3.out⟩, HB3.out⟩
end Go.Proofs.Ytpfalkdkiffipaa
