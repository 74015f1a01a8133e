/- The parser's builder in memory: tree, the walk. -/
import Derived.Test.YtpfalkdkiffipaaP13l
namespace Go.Proofs.Ytpfalkdkiffipaa
open Go.RowKit Go.Maps
set_option maxRecDepth 100000
attribute [local go_sem] byt_at byt_wrap cell_lit
set_option maxHeartbeats 4000000 in
theorem tree_bad (b : Nat) (s : S.St) (w : World) (h : Bd b s w) (ho : s.opn.length ≤ 900000) (hl : s.nodes.length ≤ 900000) (hbad : s.wrong = true ∨ s.opn ≠ [] ∨ s.nodes = []) :
    Calls Try.prog 25 #[.pointer (some ⟨b, 0, none⟩)] w (TreeSaid b s.tree w) := by
  have HS : Hid (s.tree = .error 15) := Lib.hid (by rw [S.St.tree, if_pos hbad])
  have hlb := h.lt
  obtain ⟨vn, vm, vo, h⟩ := h
  obtain ⟨c0, c1, c2, c3, c4, c5⟩ := h.cells
  obtain ⟨an, capn, rfl⟩ := row_form h.nodes
  obtain ⟨ao, capo, rfl⟩ := row_form h.opn
  have hB2 : ∀ o1 o2 : Obj, Below b w ((w.alloc o1).alloc o2) := fun o1 o2 => ((Below.refl _ _).alloc (by omega) _).alloc (by simp; omega) _
  have HB2 := Lib.hid hB2
  clear c1 c3 c4 h hB2
  cases hw : s.wrong
  · rw [hw] at c5
    by_cases hopn : 0 < s.opn.length
    · clear hbad
      go_enter Try.func25, Try.ntmps25
      go_wp2_with fail
      go_returns
      exact tree_err HS.out (HB2.out _ _)
    · have hopn0 : s.opn.length = 0 := by omega
      rw [hopn0] at c2
      have hnod : s.nodes.length = 0 := by
        rcases hbad with h | h | h
        · rw [hw] at h; simp at h
        · exact absurd (List.eq_nil_of_length_eq_zero hopn0) h
        · rw [h]; rfl
      rw [hnod] at c0
      clear hbad
      go_enter Try.func25, Try.ntmps25
      go_wp2_with fail
      go_returns
      exact tree_err HS.out (HB2.out _ _)
  · rw [hw] at c5
    clear hbad
    go_enter Try.func25, Try.ntmps25
    go_wp2_with fail
    go_returns
    exact tree_err HS.out (HB2.out _ _)
theorem nums_new {w : World} {M : Nat} (h : w.heap[M]? = some (.map #[] 0)) : Nums M 0 (.map []) w := by
  obtain ⟨es, clock, hb, F, h1, h2⟩ := World.ownsMap_made (H := Unit) w Try.prog 9 (plainElem Try.prog 3)
  have hb' : (w.alloc (.map #[] 0)).heap[w.heap.size]? = some (.map #[] 0) := heap_new w _
  rw [hb] at hb'
  simp only [Option.some.injEq, Obj.map.injEq] at hb'
  obtain ⟨rfl, rfl⟩ := hb'
  exact ⟨#[], 0, h, F, h1, h2⟩
theorem nums_ext {w w' : World} {M n : Nat} {D : DataW Unit} (h : Nums M n D w) (hb : Below w.heap.size w w') : Nums M n D w' := by
  have hlt := World.ownsMap.lt h
  obtain ⟨es, clock, h1, h2⟩ := h
  exact ⟨es, clock, (hb.block M hlt).trans h1, h2⟩
theorem tree_results {T : Nat} {tmps : Array Value} {w : World} {v0 v1 : Value} (h2 : tmps.getD 2 undef = .pointer (some ⟨T, 0, none⟩)) (h0 : w.cell? ⟨T, 0, none⟩ = some v0) (h1 : w.cell? ⟨T, 1, none⟩ = some v1) :
    (results Try.f25 tmps).run Try.prog w = .ok (.tuple #[.agg #[v0, v1], tmps.getD 3 undef]) w := by
  simp only [Array.getD_eq_getD_getElem?] at h2
  simp [results, Try.results25, go_sem, h2, h0, h1]
theorem two_below (b T : Nat) (u v : Value) (w : World) (h : b ≤ T) : Below b w ((w.setCell ⟨T, 0, none⟩ u).setCell ⟨T, 1, none⟩ v) := ((Below.refl b w).setCell (p := ⟨T, 0, none⟩) h u).setCell (p := ⟨T, 1, none⟩) h v
theorem two_cells {w : World} {T : Nat} {a b u v : Value} {t : TypeId} (h : w.heap[T]? = some (.cells #[a, b] t (0, 0))) : ((w.setCell ⟨T, 0, none⟩ u).setCell ⟨T, 1, none⟩ v).cell? ⟨T, 0, none⟩ = some u ∧ ((w.setCell ⟨T, 0, none⟩ u).setCell ⟨T, 1, none⟩ v).cell? ⟨T, 1, none⟩ = some v :=
  ⟨block_cell (block_set (block_set h 0 u) 1 v) 0, block_cell (block_set (block_set h 0 u) 1 v) 1⟩
set_option maxHeartbeats 16000000 in
theorem tree_good (b : Nat) (s : S.St) (w : World) (h : Bd b s w) (hm : s.names.length = s.nodes.length) (hl : s.nodes.length ≤ 900000) (hx : ∀ x ∈ s.names, x.length ≤ 1000000000) (hw : s.wrong = false) (ho : s.opn = []) (hn : s.nodes ≠ []) :
    Calls Try.prog 25 #[.pointer (some ⟨b, 0, none⟩)] w (TreeSaid b s.tree w) := by
  have HS : Hid (s.tree = if s.deep = true ∨ 5000 < s.nodes.length ∨ 1000 < s.keys.length then .error 18 else .ok (s.keys, (s.nodes.zip s.names).map fun x => if x.1.kind = 3 then x.1 else { x.1 with name := s.keys.idxOf x.2 })) := Lib.hid (by rw [S.St.tree, if_neg (by simp [hw, ho, hn])])
  have hlb := h.lt
  have hn0 : 0 < s.nodes.length := List.length_pos_iff.2 hn
  have hol : s.opn.length = 0 := by rw [ho]; rfl
  obtain ⟨vn, vm, vo, h⟩ := h
  obtain ⟨c0, c1, c2, c3, c4, c5⟩ := h.cells
  obtain ⟨g, capn, rfl, _⟩ := row_nodes h.nodes rfl hn0
  obtain ⟨ao, capo, rfl⟩ := row_form h.opn
  have HA := Lib.hid h
  have HX := Lib.hid hx; clear hx
  have hgl : g < w.heap.size := (h.nodes.lt g rfl).2
  have hbg : b + 1 ≤ g := (h.nodes.lt g rfl).1
  have HOM := Lib.hid (And.intro (fun k hk => (h.names.lt k hk).2) (fun k hk => (h.opn.lt k hk).2))
  have hmm := @run_makeMap Try.prog
  rw [hol] at c2
  rw [hw] at c5
  clear c1 c3 h ho hn
  go_enter Try.func25, Try.ntmps25
  go_wp2_with fail
  obtain ⟨b1, b2, b3, b4, hz, hE⟩ := tree_start w (.cells #[.pointer (some ⟨b, 0, none⟩)] 54) (.cells #[.slice none 0 0, .slice none 0 0] 39) (.map #[] 0) (.cells #[.map (some (w.heap.size + 1 + 1))] 67)
  generalize ((((w.alloc (.cells #[.pointer (some ⟨b, 0, none⟩)] 54)).alloc (.cells #[.slice none 0 0, .slice none 0 0] 39)).alloc (.map #[] 0)).alloc (.cells #[.map (some (w.heap.size + 1 + 1))] 67)) = W4 at *
  have HO4 := HA.out.ext hE
  have HE4 := Lib.hid (hE.mono (Nat.le_of_lt hlb))
  generalize hT : w.heap.size + 1 = T at *
  generalize hM : T + 1 = M at *
  generalize hN : M + 1 = N at *
  generalize hB : w.heap.size = B at *
  have hnums := nums_new b3
  have hgM : ∀ k, vm.ownBlock = some k → k < B := HOM.out.1
  have hgO : ∀ k, (Value.slice ao s.opn.length capo).ownBlock = some k → k < B := HOM.out.2
  have heach := each0_any N B b M s W4 _ vm _ (block_cell b4 0) (block_cell b1 0) HO4 hm (by omega) hn0 HX.out (by omega) (by omega) (by omega) (by simp [Value.ownBlock]; omega) (fun e => by have := hgM _ e; omega) (fun e => by have := hgO _ e; omega) hnums
  refine heach.mono ?_
  rintro e W5 ⟨rfl, hg5, hn5⟩
  have hB5 : Below b W4 W5 := (Below.refl _ _).grown hg5 (by omega) (fun k hk => by cases hk; omega)
  have HA5 := HO4.kept hg5 (by omega) (by simp [Value.ownBlock]; omega) (fun e => by have := hgM _ e; omega) (fun e => by have := hgO _ e; omega)
  have q1 := hg5.cell (block_cell b1 0 : W4.cell? ⟨B, 0, none⟩ = some (.pointer (some ⟨b, 0, none⟩))) (by simp; omega)
  have q2 := hg5.cell (block_cell b4 0 : W4.cell? ⟨N, 0, none⟩ = some (.map (some M))) (by simp; omega)
  have q3 := (hg5.block T (by omega) (by simp; omega)).trans b2
  have hz5 : N < W5.heap.size := by have := hg5.size; omega
  have HE5 := Lib.hid (HE4.out.trans hB5)
  have HHA5 := Lib.hid HA5
  have HN5 := Lib.hid hn5
  obtain ⟨_, _, _, _, d4, _⟩ := HA5.cells
  have d0 := HA5.cells.1
  clear heach hg5 hn5 hB5 b1 b2 b3 b4 hz HO4 hnums HA HE4 c0 c2 c4 c5 HA5 hmm
  go_wp2_with fail
  refine (keys_any (some M) W5).mono ?_
  rintro e W6 ⟨rfl, rfl⟩
  go_wp2_with fail
  refine (sorted_any M s.nodes.length (numsD s s.nodes.length) (plainElem Try.prog 3) W5 HN5.out (by have := HN5.out.size_le; unfold maxLen; omega) (by have := HN5.out.size_le; omega)).mono ?_
  rintro e W7 ⟨v, ss, rfl, hperm, hrow, hnil, hb7⟩
  obtain ⟨hk1, hk2⟩ := keys_sorted s W5 M _ hm HN5.out ss hperm
  rw [hk1, hk2, s_empty] at hrow
  have hE7 : Below W5.heap.size W5 W7 := ((Below.refl _ _).alloc (Nat.le_refl _) _).trans (hb7.mono (by simp))
  have hA7 := HHA5.out.ext hE7
  have r1 : W7.cell? ⟨B, 0, none⟩ = some (.pointer (some ⟨b, 0, none⟩)) := (hE7.cell (p := ⟨B, 0, none⟩) (by show B < _; omega)).trans q1
  have r2 : W7.cell? ⟨N, 0, none⟩ = some (.map (some M)) := (hE7.cell (p := ⟨N, 0, none⟩) hz5).trans q2
  have r3 := (hE7.block T (by omega)).trans q3
  have HN7 := Lib.hid (nums_ext HN5.out hE7)
  obtain ⟨av, capv, rfl⟩ := row_form hrow
  have hvb : ∀ k, (Value.slice av s.keys.length capv).ownBlock = some k → N < k ∧ k < W7.heap.size := fun k hk => by have := hrow.lt k hk; simp at this; omega
  have hrow7 : W7.ownsRow (b + 1) 9 1 (.slice av s.keys.length capv) s.keys.length (strs s.keys) := owns_base hrow (by simp; omega)
  have HR7 := Lib.hid hrow7
  have HVB := Lib.hid hvb
  have hz7 : N < W7.heap.size := by have := hE7.size; omega
  have HE7 := Lib.hid (HE5.out.trans (hE7.mono (by omega)))
  have HA7 := Lib.hid hA7
  obtain ⟨e0, _, _, _, e4, _⟩ := hA7.cells
  have t0 : W7.cell? ⟨T, 0, none⟩ = some (.slice none 0 0) := block_cell r3 0
  have t1 : W7.cell? ⟨T, 1, none⟩ = some (.slice none 0 0) := block_cell r3 1
  have ft0 : W7.frozen? ⟨T, 0, none⟩ = false := block_free r3 0
  have ft1 : W7.frozen? ⟨T, 1, none⟩ = false := block_free r3 1
  have hkl : s.keys.length ≤ s.nodes.length := by
    have := HN5.out.size_le
    have h1 := hperm.length_eq
    obtain ⟨es, hes, _⟩ := HN5.out.keysOf
    have h2 : (strKeys (numsD s s.nodes.length)).length = Maps.size (numsD s s.nodes.length) := by rw [hes]; simp [strKeys, Maps.size]
    omega
  clear hE7 hb7 hrow hrow7 hvb hA7 HHA5 HN5 q1 q2 q3 d0 d4 hnil hperm hk1 hk2 HE5
  cases hd : s.deep
  · rw [hd] at e4
    by_cases h5 : (5000 : Int) < (s.nodes.length : Int)
    · go_wp2_with fail
      refine bodyPost_ret (tree_results rfl (two_cells r3).1 (two_cells r3).2) rfl ?_
      exact tree_err (by rw [HS.out, if_pos (.inr (.inl (by omega)))]) (HE7.out.trans (two_below b T _ _ _ (by omega)))
    · by_cases h1 : (1000 : Int) < (s.keys.length : Int)
      · go_wp2_with fail
        refine bodyPost_ret (tree_results rfl (two_cells r3).1 (two_cells r3).2) rfl ?_
        exact tree_err (by rw [HS.out, if_pos (.inr (.inr (by omega)))]) (HE7.out.trans (two_below b T _ _ _ (by omega)))
      · have hbig : ¬ (s.deep = true ∨ 5000 < s.nodes.length ∨ 1000 < s.keys.length) := by
          rintro (h | h | h)
          · rw [hd] at h; simp at h
          · omega
          · omega
        have HBIG := Lib.hid hbig; clear hbig
        have HND := Lib.hid (keys_nodup s)
        have HKN := Lib.hid (keys_le s hm)
        have hkk : (s.keys.length : Int) ≤ 9223372036854775807 := by omega
        have hd5 : decide ((5000 : Int) < (s.nodes.length : Int)) = false := decide_eq_false h5
        have hd1 : decide ((1000 : Int) < (s.keys.length : Int)) = false := decide_eq_false h1
        go_wp2_with fail
        clear t0 t1 ft0 ft1 e0 e4 hd5 hd1
        have HR2 := Lib.hid r2
        have HR1 := Lib.hid r1
        clear r1 r2
        go_loopw [58] (fun i wr => ∃ (k nn : Nat) (D : DataW Unit), i = .int .i64 k ∧ k ≤ s.keys.length ∧ nn ≤ s.nodes.length + k ∧ W7.grownBy wr (some M) ∧ Nums M nn D wr ∧ IsMap D ∧ Told s.keys k D) (fun i _ => s.keys.length - (intOf i).toNat)
        case atStart => exact ⟨0, s.nodes.length, _, rfl, by omega, by omega, World.grownBy.refl _ _, HN7.out, World.ownsMap.isMap HN7.out, fun j hj => by omega⟩
        case round =>
          obtain ⟨k, nn, D, rfl, hk, hnn, hg, hnums, hmap, htold⟩ := hrel
          have x2 := hg.cell HR2.out (by simp; omega)
          have hR := HR7.out.kept hg (by
            rcases hob : (Value.slice av s.keys.length capv).ownBlock with _ | j
            · exact .inl rfl
            · right; have := (HVB.out j hob).1; simp; omega)
          obtain ⟨av', cv', he, hcell⟩ := row_at hR
          simp only [Value.slice.injEq] at he
          obtain ⟨rfl, -, rfl⟩ := he
          have HG := Lib.hid hg; clear hg
          have HNM := Lib.hid hnums; clear hnums
          have HMP := Lib.hid hmap; clear hmap
          have HTD := Lib.hid htold; clear htold
          by_cases hlt : k < s.keys.length
          · obtain ⟨gv, rfl, hgv, hcv⟩ := hcell k (.string ⟨(s.keys.getD k []).toArray⟩) (by unfold strs; rw [List.getElem?_map, List.getD_eq_getElem?_getD, List.getElem?_eq_getElem hlt]; rfl)
            have hk0 : (0 : Int) ≤ (k : Int) := by omega
            have hk1 : (k : Int) < (s.keys.length : Int) := by omega
            have hcap : s.keys.length ≤ capv := by
              rcases hR.2 with ⟨hv, _⟩ | ⟨_, _, _, hv, _, _, hc, _⟩
              · simp at hv
              · simp only [Value.slice.injEq] at hv; omega
            have HKEY := Lib.hid (key_str (s.keys.getD k []) (HX.out _ (HKN.out _ (by rw [List.getD_eq_getElem?_getD, List.getElem?_eq_getElem hlt]; exact List.getElem_mem _))))
            have HST := Lib.hid (HTD.out.step HMP.out HND.out hlt)
            clear hcell hR
            generalize s.keys.getD k [] = x at *
            go_wp2_with (at_mapUpdate; refine wpList_mapUpdate_own _ rfl _ _ _ 67 rfl 9 3 strKeyed Try.underlying67 _ M nn D rfl (by exact HNM.out) (by unfold maxLen; omega) _ _ (.string x) rfl rfl HKEY.out (.lit (.int .i64 k)) [] (plainElem_int Try.underlying3 (WalkArith.wf_i64 (by omega))) ?_)
            intro w1 hown1 hgrow1
            go_wp2_with fail
            go_roundw
            case rel => exact ⟨k + 1, nn + 1, _, by simp, by omega, by omega, HG.out.trans hgrow1, hown1, HMP.out.put _ _, HST.out⟩
            case measure => simp [intOf]; omega
          · have hke : k = s.keys.length := by omega
            subst hke
            clear hcell
            go_wp2_with fail
            have hgM : ∀ k, vm.ownBlock = some k → k < B := HOM.out.1
            have hgO : ∀ k, (Value.slice ao s.opn.length capo).ownBlock = some k → k < B := HOM.out.2
            have hA8 := HA7.out.kept HG.out (by omega) (by simp [Value.ownBlock]; omega) (fun e => by have := hgM _ e; omega) (fun e => by have := hgO _ e; omega)
            have x1 := HG.out.cell HR1.out (by simp; omega)
            have x3 := (HG.out.block T (by omega) (by simp; omega)).trans r3
            have hvg : ∀ j, (Value.slice av s.keys.length capv).ownBlock = some j → N < j := fun j hj => (HVB.out j hj).1
            have HR8 := Lib.hid hR
            have hTd : ∀ (k : Nat) (n : S.Node), s.nodes[k]? = some n → n.kind ≠ 3 → D.atKey (.string (s.names.getD k [])) (.lit (.int .i64 0)) = .lit (.int .i64 ((s.keys.idxOf (s.names.getD k []) : Nat) : Int)) := fun k n hkn hkd => by
              obtain ⟨hlt', rfl⟩ := List.getElem?_eq_some_iff.1 hkn
              exact HTD.out.idx (keys_mem s k hm hlt' hkd)
            have heach := each1_any N B b M nn g capn (fun x => ((s.keys.idxOf x : Nat) : Int)) D s wr vm _ x2 x1 hA8 hm (by omega) hn0 HX.out (by omega) (by omega) (by omega) HNM.out hTd
            have HEA := Lib.hid heach
            have HE8 := Lib.hid (HE7.out.trans ((Below.refl b W7).grown HG.out (by omega) (fun k hk => by cases hk; omega)))
            have hz8 : N < wr.heap.size := by have := HG.out.size; omega
            clear heach hTd hA8 hR HR1 HR2 HR7 HA7
            go_wp2_with fail
            refine HEA.out.mono ?_
            rintro e W9 ⟨rfl, hg9, hA9⟩
            have y1 := hg9.cell x1 (by simp; omega)
            have y3 := (hg9.block T (by omega) (by simp; omega)).trans x3
            obtain ⟨z0, _, _, _, _, _⟩ := hA9.cells
            have u0 : W9.cell? ⟨T, 0, none⟩ = some (.slice none 0 0) := block_cell y3 0
            have u1 : W9.cell? ⟨T, 1, none⟩ = some (.slice none 0 0) := block_cell y3 1
            have uf0 : W9.frozen? ⟨T, 0, none⟩ = false := block_free y3 0
            have uf1 : W9.frozen? ⟨T, 1, none⟩ = false := block_free y3 1
            have hR9 := HR8.out.kept hg9 (by
              rcases hob : (Value.slice av s.keys.length capv).ownBlock with _ | j
              · exact .inl rfl
              · right; have := hvg j hob; simp; omega)
            have HE9 := Lib.hid (HE8.out.trans ((Below.refl b wr).grown hg9 (by omega) (fun k hk => by cases hk; omega)))
            have HR9 := Lib.hid hR9
            have HA9 := Lib.hid hA9
            clear hR9 hA9 hg9 HEA x1 x2 x3
            go_wp2_with fail
            refine bodyPost_ret (tree_results rfl (two_cells y3).1 (two_cells y3).2) rfl ?_
            refine ⟨HE9.out.trans (two_below b T _ _ _ (by omega)), ?_⟩
            rw [HS.out, if_neg HBIG.out]
            have hvT : (Value.slice av s.keys.length capv).ownBlock = none ∨ (Value.slice av s.keys.length capv).ownBlock ≠ some T := by
              rcases hob : (Value.slice av s.keys.length capv).ownBlock with _ | j
              · exact .inl rfl
              · right; have := hvg j hob; simp; omega
            have hgT : (Value.slice (some ⟨g, 0, none⟩) s.nodes.length capn).ownBlock = none ∨ (Value.slice (some ⟨g, 0, none⟩) s.nodes.length capn).ownBlock ≠ some T := .inr (by simp [Value.ownBlock]; omega)
            have hnr := HA9.out.nodes
            simp only [] at hnr
            rw [numbered_all _ s hm] at hnr
            exact ⟨_, _, rfl, (HR9.out.kept (set_grown _ T 0 _) hvT).kept (set_grown _ T 1 _) hvT, (hnr.kept (set_grown _ T 0 _) hgT).kept (set_grown _ T 1 _) hgT, fun j hj hj2 => by
              have h1 := hvg j hj
              simp [Value.ownBlock] at hj2
              omega⟩
  · rw [hd] at e4
    go_wp2_with fail
    refine bodyPost_ret (tree_results rfl (two_cells r3).1 (two_cells r3).2) rfl ?_
    exact tree_err (by rw [HS.out, if_pos (.inl hd)]) (HE7.out.trans (two_below b T _ _ _ (by omega)))
theorem tree_any (b : Nat) (s : S.St) (w : World) (h : Bd b s w) (hm : s.names.length = s.nodes.length) (hl : s.nodes.length ≤ 900000) (ho : s.opn.length ≤ 900000) (hx : ∀ x ∈ s.names, x.length ≤ 1000000000) :
    Calls Try.prog 25 #[.pointer (some ⟨b, 0, none⟩)] w (TreeSaid b s.tree w) := by
  by_cases hbad : s.wrong = true ∨ s.opn ≠ [] ∨ s.nodes = []
  · exact tree_bad b s w h ho hl hbad
  · refine tree_good b s w h hm hl hx ?_ ?_ ?_
    · cases hw : s.wrong
      · rfl
      · exact absurd (.inl hw) hbad
    · exact Classical.byContradiction fun h => hbad (.inr (.inl h))
    · exact fun h => hbad (.inr (.inr h))
end Go.Proofs.Ytpfalkdkiffipaa
