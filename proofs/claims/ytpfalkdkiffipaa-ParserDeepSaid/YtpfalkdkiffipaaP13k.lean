/- The parser's builder in memory: what tree does with each node that is no text. -/
import Derived.Test.YtpfalkdkiffipaaP13j
import Derived.Sort.KeysCollected
namespace Go.Proofs.Ytpfalkdkiffipaa
open Go.RowKit Go.Maps
set_option maxRecDepth 100000
attribute [local go_sem] byt_at byt_wrap cell_lit
/-- the names of the first k nodes, texts passed over -/
def tagged (s : S.St) (k : Nat) : List S.B := (((s.nodes.zip s.names).take k).filter fun x => x.1.kind != 3).map (·.2)
def numsD (s : S.St) (k : Nat) : DataW Unit := setOf (.lit (.int .i64 0)) ((tagged s k).map Lit.string)
theorem zip_at (s : S.St) (k : Nat) (hm : s.names.length = s.nodes.length) (hk : k < s.nodes.length) : (s.nodes.zip s.names)[k]? = some (s.nodes[k], s.names.getD k []) := by
  rw [List.getElem?_zip_eq_some]
  exact ⟨List.getElem?_eq_getElem hk, by rw [List.getD_eq_getElem?_getD, List.getElem?_eq_getElem (by omega)]; rfl⟩
theorem tagged_text (s : S.St) (k : Nat) (hm : s.names.length = s.nodes.length) (hk : k < s.nodes.length) (h : s.nodes[k].kind = 3) : tagged s (k + 1) = tagged s k := by
  unfold tagged
  rw [List.take_add_one, zip_at s k hm hk]
  simp [h]
theorem tagged_name (s : S.St) (k : Nat) (hm : s.names.length = s.nodes.length) (hk : k < s.nodes.length) (h : s.nodes[k].kind ≠ 3) : tagged s (k + 1) = tagged s k ++ [s.names.getD k []] := by
  unfold tagged
  rw [List.take_add_one, zip_at s k hm hk]
  simp [h]
theorem numsD_text (s : S.St) (k : Nat) (hm : s.names.length = s.nodes.length) (hk : k < s.nodes.length) (h : s.nodes[k].kind = 3) : numsD s (k + 1) = numsD s k := by unfold numsD; rw [tagged_text s k hm hk h]
theorem numsD_name (s : S.St) (k : Nat) (hm : s.names.length = s.nodes.length) (hk : k < s.nodes.length) (h : s.nodes[k].kind ≠ 3) : numsD s (k + 1) = (numsD s k).put (.string (s.names.getD k [])) (.lit (.int .i64 0)) := by
  unfold numsD; rw [tagged_name s k hm hk h, List.map_append]; exact setOf_snoc _ _ _
theorem BdAt.kept {b M : Nat} {s : S.St} {vn vm vo : Value} {w w' : World} (h : BdAt b s vn vm vo w) (hg : w.grownBy w' (some M)) (hb : b ≠ M) (hn : vn.ownBlock ≠ some M) (hm : vm.ownBlock ≠ some M) (ho : vo.ownBlock ≠ some M) : BdAt b s vn vm vo w' :=
  ⟨by rw [hg.block b (lt_of_block h.block) (by simpa using hb)]; exact h.block, h.nodes.kept hg (.inr hn), h.names.kept hg (.inr hm), h.opn.kept hg (.inr ho), h.nm, h.no, h.mo⟩
set_option maxHeartbeats 4000000 in
theorem each0_any (N B b M : Nat) (s : S.St) (w : World) (vn vm vo : Value) (hN : w.cell? ⟨N, 0, none⟩ = some (.map (some M))) (hB : w.cell? ⟨B, 0, none⟩ = some (.pointer (some ⟨b, 0, none⟩)))
    (h : BdAt b s vn vm vo w) (hm : s.names.length = s.nodes.length) (hl : s.names.length ≤ 900000) (h0 : 0 < s.nodes.length) (hx : ∀ x ∈ s.names, x.length ≤ 1000000000)
    (eN : N ≠ M) (eB : B ≠ M) (eb : b ≠ M) (hnM : vn.ownBlock ≠ some M) (hmM : vm.ownBlock ≠ some M) (hoM : vo.ownBlock ≠ some M) (hown : Nums M 0 (.map []) w) :
    Calls Try.prog 39 #[.func (.func 40) #[] #[.pointer (some ⟨N, 0, none⟩), .pointer (some ⟨B, 0, none⟩)], .pointer (some ⟨B, 0, none⟩)] w fun e w' => e = .returned (.tuple #[]) ∧ w.grownBy w' (some M) ∧ Nums M s.nodes.length (numsD s s.nodes.length) w' := by
  obtain ⟨c0, c1, c2, c3, c4, c5⟩ := h.cells
  obtain ⟨g, cap, rfl, hcap, hgl, hfr, hnode⟩ := row_nodes h.nodes rfl h0
  have HA := Lib.hid h
  have HX := Lib.hid hx
  have hNl : N < w.heap.size := World.block_lt_of_cell? w _ hN
  have hBl : B < w.heap.size := World.block_lt_of_cell? w _ hB
  have HO := Lib.hid hown
  have hln : (s.nodes.length : Int) ≤ 9223372036854775807 := by omega
  have HNB := Lib.hid (And.intro hN hB)
  clear hnode hfr c1 c2 c3 c4 c5 hown hx h hN
  go_enter Try.func39, Try.ntmps39
  go_wp2
  go_loopw [10] (fun v wr => ∃ k : Nat, v = .int .i64 k ∧ k ≤ s.nodes.length ∧ w.grownBy wr (some M) ∧ Nums M k (numsD s k) wr) (fun v _ => s.nodes.length - (intOf v).toNat)
  case atStart => exact ⟨0, rfl, by omega, World.grownBy.refl _ _, HO.out⟩
  case round =>
    obtain ⟨k, rfl, hk, hg, hnums⟩ := hrel
    have hA := HA.out.kept hg eb hnM hmM hoM
    have hN2 := hg.cell HNB.out.1 (by simpa using eN)
    have hB2 := hg.cell HNB.out.2 (by simpa using eB)
    have HG := Lib.hid hg; clear hg
    have HNM := Lib.hid hnums; clear hnums
    obtain ⟨g', cap', he, _, _, _, hnode⟩ := row_nodes hA.nodes rfl h0
    simp only [Value.slice.injEq, Option.some.injEq, Addr.mk.injEq, and_true, true_and] at he
    obtain ⟨rfl, rfl⟩ := he
    by_cases hlt : k < s.nodes.length
    · obtain ⟨n1, n2, n3, n4⟩ := hnode k s.nodes[k] (List.getElem?_eq_getElem hlt)
      have hk0 : (0 : Int) ≤ (k : Int) := by omega
      have hk1 : (k : Int) < (s.nodes.length : Int) := by omega
      have hb1 : ∀ o : Obj, Below wr.heap.size wr (wr.alloc o) := fun o => (Below.refl _ _).alloc (Nat.le_refl _) o
      have hBX : ∀ o : Obj, Bd b s (wr.alloc o) := fun o => ⟨_, _, _, hA.ext (hb1 o)⟩
      have hz := fun o : Obj => zero_any k N B b M k s (numsD s k) (wr.alloc o) (((hb1 o).cell (p := ⟨N, 0, none⟩) (World.block_lt_of_cell? wr _ hN2)).trans hN2) (((hb1 o).cell (p := ⟨B, 0, none⟩) (World.block_lt_of_cell? wr _ hB2)).trans hB2) (hBX o) (by omega) (by omega) (HX.out _ (by rw [List.getD_eq_getElem?_getD, List.getElem?_eq_getElem (by omega)]; exact List.getElem_mem _)) (World.ownsMap.alloc HNM.out o) (by omega)
      have HZ := Lib.hid hz
      clear hz hBX hb1 hnode hA hN2 hB2
      by_cases hkind : s.nodes[k].kind = 3
      · have HK := Lib.hid (numsD_text s k hm hlt hkind)
        rw [hkind] at n1
        go_wp2_with fail
        go_roundw
        case rel => exact ⟨k + 1, by simp, by omega, HG.out.trans (World.grownBy_alloc _ _ _), by rw [HK.out]; exact (World.ownsMap.alloc HNM.out _).mono (Nat.le_succ _)⟩
        case measure => simp [intOf]; omega
      · have HK := Lib.hid (numsD_name s k hm hlt hkind)
        generalize s.nodes[k].kind = kd at *
        go_wp2_with fail
        refine (HZ.out _).mono ?_
        rintro e w5 ⟨rfl, hz1, hz2⟩
        go_wp2_with fail
        go_roundw
        case rel => exact ⟨k + 1, by simp, by omega, (HG.out.trans (World.grownBy_alloc _ _ _)).trans hz2, by rw [HK.out]; exact hz1⟩
        case measure => simp [intOf]; omega
    · have hke : k = s.nodes.length := by omega
      subst hke
      clear hnode hA hN2 hB2
      go_wp2_with fail
      go_end0
      exact ⟨rfl, HG.out, HNM.out⟩
/-- the first k nodes with their names' numbers -/
def numbered (f : S.B → Int) (s : S.St) (k : Nat) : List S.Node := (((s.nodes.zip s.names).take k).map fun x => if x.1.kind = 3 then x.1 else { x.1 with name := f x.2 }) ++ s.nodes.drop k
theorem numbered_len (f : S.B → Int) (s : S.St) (k : Nat) (hm : s.names.length = s.nodes.length) (hk : k ≤ s.nodes.length) : (numbered f s k).length = s.nodes.length := by
  unfold numbered; simp; omega
theorem numbered_zero (f : S.B → Int) (s : S.St) : numbered f s 0 = s.nodes := by unfold numbered; simp
theorem numbered_all (f : S.B → Int) (s : S.St) (hm : s.names.length = s.nodes.length) : numbered f s s.nodes.length = (s.nodes.zip s.names).map fun x => if x.1.kind = 3 then x.1 else { x.1 with name := f x.2 } := by
  unfold numbered; rw [List.drop_length, List.append_nil, List.take_of_length_le (by simp; omega)]
theorem numbered_at (f : S.B → Int) (s : S.St) (k : Nat) (hm : s.names.length = s.nodes.length) (hk : k < s.nodes.length) : (numbered f s k)[k]? = some s.nodes[k] := by
  unfold numbered
  have hl : (((s.nodes.zip s.names).take k).map fun x => if x.1.kind = 3 then x.1 else { x.1 with name := f x.2 }).length = k := by simp; omega
  rw [List.getElem?_append_right (by omega), hl, Nat.sub_self, List.getElem?_drop, Nat.add_zero, List.getElem?_eq_getElem hk]
theorem numbered_text (f : S.B → Int) (s : S.St) (k : Nat) (hm : s.names.length = s.nodes.length) (hk : k < s.nodes.length) (h : s.nodes[k].kind = 3) : numbered f s (k + 1) = numbered f s k := by
  unfold numbered
  rw [List.take_add_one, zip_at s k hm hk, List.drop_eq_getElem_cons hk]
  simp [h]
theorem modify_mid {α : Type} (f : α → α) (x : α) (r : List α) : ∀ l : List α, (l ++ x :: r).modify l.length f = l ++ f x :: r
  | [] => rfl
  | a :: l => by
    show a :: ((l ++ x :: r).modify l.length f) = a :: (l ++ f x :: r)
    rw [modify_mid f x r l]
theorem numbered_name (f : S.B → Int) (s : S.St) (k : Nat) (hm : s.names.length = s.nodes.length) (hk : k < s.nodes.length) (h : s.nodes[k].kind ≠ 3) : numbered f s (k + 1) = (numbered f s k).modify k fun n => { n with name := f (s.names.getD k []) } := by
  unfold numbered
  have hl : (((s.nodes.zip s.names).take k).map fun x => if x.1.kind = 3 then x.1 else { x.1 with name := f x.2 }).length = k := by simp; omega
  have e := modify_mid (fun n : S.Node => { n with name := f (s.names.getD k []) }) s.nodes[k] (s.nodes.drop (k + 1)) (((s.nodes.zip s.names).take k).map fun x => if x.1.kind = 3 then x.1 else { x.1 with name := f x.2 })
  rw [hl] at e
  rw [List.drop_eq_getElem_cons hk, e, List.take_add_one, zip_at s k hm hk]
  simp [h]
theorem drew_grown (w : World) (row : Option Nat) : w.grownBy w.drew row := ⟨rfl, rfl, rfl, Nat.le_refl _, fun _ _ _ => rfl⟩
theorem set_grown (w : World) (g j : Nat) (v : Value) : w.grownBy (w.setCell ⟨g, j, none⟩ v) (some g) :=
  ⟨rfl, rfl, rfl, by simp, fun k _ hk => Below.heap_setCell _ _ _ _ (by simpa using hk)⟩
theorem BdAt.set_name {b g cap k : Nat} {c : Int} {s : S.St} {vm vo : Value} {w : World} (h : BdAt b s (.slice (some ⟨g, 0, none⟩) s.nodes.length cap) vm vo w) (hk : k < s.nodes.length) :
    BdAt b { s with nodes := s.nodes.modify k fun n => { n with name := c } } (.slice (some ⟨g, 0, none⟩) s.nodes.length cap) vm vo (w.setCell ⟨g, k * 4 + 1, none⟩ (.int .i64 c)) := by
  have hbg : b ≠ g := by have := own_ge1 h.nodes (k := g) rfl; omega
  have hgm : vm.ownBlock = none ∨ vm.ownBlock ≠ some g := h.nm.or
  have hgo : vo.ownBlock = none ∨ vo.ownBlock ≠ some g := h.no.or
  have hg := set_grown w g (k * 4 + 1) (.int .i64 c)
  refine ⟨by rw [Below.heap_setCell _ _ _ _ hbg]; exact h.block, ?_, h.names.kept hg hgm, h.opn.kept hg hgo, h.nm, h.no, h.mo⟩
  have h2 := row_store (u := .int .i64 c) h.nodes (j := k * 4 + 1) (by omega)
  rw [nodes_set _ _ _ hk] at h2
  have e : (s.nodes.modify k fun n => { n with name := c }).length = s.nodes.length := by simp
  show World.ownsRow _ _ _ 4 _ (s.nodes.modify k fun n => { n with name := c }).length _
  rw [e]; exact h2
set_option maxHeartbeats 4000000 in
theorem each1_any (N B b M nn g cap : Nat) (f : S.B → Int) (D : DataW Unit) (s : S.St) (w : World) (vm vo : Value) (hN : w.cell? ⟨N, 0, none⟩ = some (.map (some M))) (hB : w.cell? ⟨B, 0, none⟩ = some (.pointer (some ⟨b, 0, none⟩)))
    (h : BdAt b s (.slice (some ⟨g, 0, none⟩) s.nodes.length cap) vm vo w) (hm : s.names.length = s.nodes.length) (hl : s.names.length ≤ 900000) (h0 : 0 < s.nodes.length) (hx : ∀ x ∈ s.names, x.length ≤ 1000000000)
    (eN : N ≠ g) (eB : B ≠ g) (eM : M ≠ g) (hown : Nums M nn D w) (hD : ∀ (k : Nat) (n : S.Node), s.nodes[k]? = some n → n.kind ≠ 3 → D.atKey (.string (s.names.getD k [])) (.lit (.int .i64 0)) = .lit (.int .i64 (f (s.names.getD k [])))) :
    Calls Try.prog 39 #[.func (.func 43) #[] #[.pointer (some ⟨N, 0, none⟩), .pointer (some ⟨B, 0, none⟩)], .pointer (some ⟨B, 0, none⟩)] w fun e w' => e = .returned (.tuple #[]) ∧ w.grownBy w' (some g) ∧ BdAt b { s with nodes := numbered f s s.nodes.length } (.slice (some ⟨g, 0, none⟩) s.nodes.length cap) vm vo w' := by
  obtain ⟨c0, c1, c2, c3, c4, c5⟩ := h.cells
  have HA := Lib.hid h
  have HX := Lib.hid hx
  have HO := Lib.hid hown
  have HD := Lib.hid hD
  have hln : (s.nodes.length : Int) ≤ 9223372036854775807 := by omega
  have hcap : s.nodes.length ≤ cap := by
    obtain ⟨g', cap', he, hcap, _⟩ := row_nodes h.nodes rfl h0
    simp only [Value.slice.injEq] at he; omega
  have HNB := Lib.hid (And.intro hN hB)
  clear c1 c2 c3 c4 c5 hown hx h hN hD
  go_enter Try.func39, Try.ntmps39
  go_wp2
  go_loopw [10] (fun v wr => ∃ k : Nat, v = .int .i64 k ∧ k ≤ s.nodes.length ∧ w.grownBy wr (some g) ∧ BdAt b { s with nodes := numbered f s k } (.slice (some ⟨g, 0, none⟩) s.nodes.length cap) vm vo wr) (fun v _ => s.nodes.length - (intOf v).toNat)
  case atStart => exact ⟨0, rfl, by omega, World.grownBy.refl _ _, by rw [numbered_zero]; exact HA.out⟩
  case round =>
    obtain ⟨k, rfl, hk, hg, hA⟩ := hrel
    have hN2 := hg.cell HNB.out.1 (by simpa using eN)
    have hB2 := hg.cell HNB.out.2 (by simpa using eB)
    have hnums := World.ownsMap.kept HO.out hg (by simpa using eM)
    have HG := Lib.hid hg; clear hg
    have hlen := numbered_len f s k hm hk
    have hA' : BdAt b { s with nodes := numbered f s k } (.slice (some ⟨g, 0, none⟩) ({ s with nodes := numbered f s k } : S.St).nodes.length cap) vm vo wr := by
      show BdAt b _ (.slice (some ⟨g, 0, none⟩) (numbered f s k).length cap) vm vo wr
      rw [hlen]; exact hA
    obtain ⟨g', cap', he, _, _, _, hnode⟩ := row_nodes hA'.nodes rfl (by show 0 < (numbered f s k).length; omega)
    simp only [Value.slice.injEq, Option.some.injEq, Addr.mk.injEq, and_true, true_and] at he
    obtain ⟨rfl, rfl⟩ := he
    have HAK := Lib.hid hA; clear hA
    by_cases hlt : k < s.nodes.length
    · obtain ⟨n1, n2, n3, n4⟩ := hnode k s.nodes[k] (numbered_at f s k hm hlt)
      have hk0 : (0 : Int) ≤ (k : Int) := by omega
      have hk1 : (k : Int) < (s.nodes.length : Int) := by omega
      have hb1 : ∀ o : Obj, Below wr.heap.size wr (wr.alloc o) := fun o => (Below.refl _ _).alloc (Nat.le_refl _) o
      have hz := fun (o : Obj) (hkd : s.nodes[k].kind ≠ 3) => setname_any k N B b M nn g cap (f (s.names.getD k [])) { s with nodes := numbered f s k } D (wr.alloc o) vm vo (((hb1 o).cell (p := ⟨N, 0, none⟩) (World.block_lt_of_cell? wr _ hN2)).trans hN2) (((hb1 o).cell (p := ⟨B, 0, none⟩) (World.block_lt_of_cell? wr _ hB2)).trans hB2) (hA'.ext (hb1 o)) (by show k < (numbered f s k).length; omega) (by show s.names.length = (numbered f s k).length; omega) (by show s.names.length ≤ _; omega) (HX.out _ (by show s.names.getD k [] ∈ _; rw [List.getD_eq_getElem?_getD, List.getElem?_eq_getElem (by omega)]; exact List.getElem_mem _)) (World.ownsMap.alloc hnums o) (HD.out k _ (List.getElem?_eq_getElem hlt) hkd)
      have HZ := Lib.hid hz
      have hsn : ∀ (o : Obj) (c : Int), BdAt b { s with nodes := (numbered f s k).modify k fun n => { n with name := c } } (.slice (some ⟨g, 0, none⟩) s.nodes.length cap) vm vo (((wr.alloc o).drew).setCell ⟨g, k * 4 + 1, none⟩ (.int .i64 c)) := fun o c => by
        have h9 := (hA'.ext (Below.drew (hb1 o))).set_name (k := k) (c := c) (by show k < (numbered f s k).length; omega)
        have e9 : ({ s with nodes := numbered f s k } : S.St).nodes.length = s.nodes.length := hlen
        rw [e9] at h9
        exact h9
      have HSN := Lib.hid hsn
      clear hsn
      clear hz hb1 hnode hA' hN2 hB2 hnums
      by_cases hkind : s.nodes[k].kind = 3
      · have HK := Lib.hid (numbered_text f s k hm hlt hkind)
        rw [hkind] at n1
        go_wp2_with fail
        go_roundw
        case rel => exact ⟨k + 1, by simp, by omega, HG.out.trans (World.grownBy_alloc _ _ _), by rw [HK.out]; exact HAK.out.ext ((Below.refl _ _).alloc (Nat.le_refl _) _)⟩
        case measure => simp [intOf]; omega
      · have HK := Lib.hid (numbered_name f s k hm hlt hkind)
        have HKD := Lib.hid hkind
        generalize hkk : s.nodes[k].kind = kd at *
        go_wp2_with fail
        refine (HZ.out _ (by assumption)).mono ?_
        rintro e w5 ⟨rfl, hw5⟩
        have HW5 := Lib.hid hw5; clear hw5
        go_wp2_with fail
        go_roundw
        case rel =>
          rw [HW5.out]
          refine ⟨k + 1, by simp, by omega, ((HG.out.trans (World.grownBy_alloc _ _ _)).trans (drew_grown _ _)).trans (set_grown _ _ _ _), ?_⟩
          rw [HK.out]
          exact HSN.out _ _
        case measure => simp [intOf]; omega
    · have hke : k = s.nodes.length := by omega
      subst hke
      clear hnode hA' hN2 hB2 hnums
      go_wp2_with fail
      go_end0
      exact ⟨rfl, HG.out, HAK.out⟩
end Go.Proofs.Ytpfalkdkiffipaa
