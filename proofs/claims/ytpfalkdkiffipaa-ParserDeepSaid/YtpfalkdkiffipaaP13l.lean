/- The parser's builder in memory: tree. -/
import Derived.Test.YtpfalkdkiffipaaP13k
import Derived.Test.YtpfalkdkiffipaaP13i
import Derived.Test.YtpfalkdkiffipaaS13b
import Derived.Sort.OwnSorted
import Derived.Handy
namespace Go.Proofs.Ytpfalkdkiffipaa
open Go.RowKit Go.Maps
set_option maxRecDepth 100000
attribute [local go_sem] byt_at byt_wrap cell_lit
/-- what tree tells -/
def TreeSaid (b : Nat) (x : Except Int (List S.B × List S.Node)) (w : World) (e : Ending) (w' : World) : Prop := Below b w w' ∧ match x with
  | .error n => e = .returned (.tuple #[.agg #[.slice none 0 0, .slice none 0 0], .int .i64 n])
  | .ok (ks, ns) => ∃ vk vn, e = .returned (.tuple #[.agg #[vk, vn], .int .i64 0]) ∧ w'.ownsRow (b + 1) 9 1 vk ks.length (strs ks) ∧ w'.ownsRow (b + 1) 44 4 vn ns.length (nodesCells ns) ∧ Apart vk vn
theorem tree_err {b : Nat} {x : Except Int (List S.B × List S.Node)} {n : Int} {w w' : World} (h : x = .error n) (hb : Below b w w') : TreeSaid b x w (.returned (.tuple #[.agg #[.slice none 0 0, .slice none 0 0], .int .i64 n])) w' := ⟨hb, by rw [h]⟩
theorem tagged_all (s : S.St) (hm : s.names.length = s.nodes.length) : tagged s s.nodes.length = ((s.nodes.zip s.names).filter fun x => x.1.kind != 3).map (·.2) := by
  unfold tagged; rw [List.take_of_length_le (by simp; omega)]
theorem same_str (a b : S.B) : (Lit.string a).sameKey (.string b) = true ↔ a = b := by
  constructor
  · intro h
    rcases Decidable.em (a = b) with e | e
    · exact e
    · rw [sameKey_ne (by simpa using e)] at h; simp at h
  · rintro rfl; simp [Lit.sameKey]
theorem key_lit (x : S.B) : WideAt.IsKeyLit (.string x) := trivial
theorem nodup_dups : ∀ (n : Nat) (l : List S.B), l.length ≤ n → l.eraseDups.Nodup
  | 0, l, h => by rw [List.eq_nil_of_length_eq_zero (Nat.le_zero.1 h)]; simp
  | n + 1, [], _ => by simp
  | n + 1, a :: l, h => by
    rw [List.eraseDups_cons, List.nodup_cons]
    refine ⟨fun hm => ?_, nodup_dups n _ (by have := List.length_filter_le (fun b => !b == a) l; simp at h; omega)⟩
    rw [List.mem_eraseDups, List.mem_filter] at hm
    simp at hm
theorem keys_sorted (s : S.St) (w : World) (M nn : Nat) (hm : s.names.length = s.nodes.length) (hown : Nums M nn (numsD s s.nodes.length) w) (ss : List S.B) (hp : ss.Perm (strKeys (numsD s s.nodes.length))) :
    ss.mergeSort (fun x y => decide (x ≤ y)) = s.keys ∧ ss.length = s.keys.length := by
  have hk : s.keys = (tagged s s.nodes.length).eraseDups.mergeSort leB := by unfold S.St.keys; rw [tagged_all s hm]
  have hlit : ∀ x ∈ (tagged s s.nodes.length).map Lit.string, WideAt.IsKeyLit x := by
    intro x hx; obtain ⟨y, _, rfl⟩ := List.mem_map.1 hx; exact key_lit y
  obtain ⟨es, hes, hpw⟩ := tidy_setOf (.lit (.int .i64 0) : DataW Unit) ((tagged s s.nodes.length).map Lit.string) hlit
  obtain ⟨es', hes', hkeys⟩ := hown.keysOf
  have hD : numsD s s.nodes.length = .map es := hes
  have he : es' = es := by rw [hD] at hes'; injection hes' with h; exact h.symm
  subst he
  have hperm : ((tagged s s.nodes.length).eraseDups).Perm (strKeys (numsD s s.nodes.length)) := by
    rw [hD]
    refine perm_strKeys hpw (fun p hp => ?_) (nodup_dups _ _ (Nat.le_refl _)) (fun x => ?_)
    · obtain ⟨v, hv⟩ := hkeys p hp
      obtain ⟨x, _, hx, _⟩ := Maps.keyOf_str Try.underlying9 hv
      exact ⟨x, hx⟩
    · rw [← hD]
      show x ∈ _ ↔ has (setOf _ _) _ = true
      rw [has_setOf _ _ _ hlit, List.mem_eraseDups, List.any_eq_true]
      constructor
      · intro h; exact ⟨.string x, List.mem_map.2 ⟨x, h, rfl⟩, (same_str x x).2 rfl⟩
      · rintro ⟨y, hy, hs⟩
        obtain ⟨z, hz, rfl⟩ := List.mem_map.1 hy
        rw [(same_str z x).1 hs] at hz; exact hz
  have h2 : ss.Perm (tagged s s.nodes.length).eraseDups := hp.trans hperm.symm
  exact ⟨by rw [hk]; exact mergeSort_of_perm h2, by rw [hk, List.length_mergeSort]; exact h2.length_eq⟩
theorem keys_nodup (s : S.St) : s.keys.Nodup := by
  unfold S.St.keys
  exact (List.mergeSort_perm _ _).nodup_iff.2 (nodup_dups _ _ (Nat.le_refl _))
theorem keys_mem (s : S.St) (k : Nat) (hm : s.names.length = s.nodes.length) (hk : k < s.nodes.length) (h : s.nodes[k].kind ≠ 3) : s.names.getD k [] ∈ s.keys := by
  unfold S.St.keys
  rw [(List.mergeSort_perm _ _).mem_iff, List.mem_eraseDups, List.mem_map]
  exact ⟨(s.nodes[k], s.names.getD k []), List.mem_filter.2 ⟨List.mem_of_getElem? (zip_at s k hm hk), by simpa using h⟩, rfl⟩
theorem keys_le (s : S.St) (hm : s.names.length = s.nodes.length) : ∀ x ∈ s.keys, x ∈ s.names := by
  intro x hx
  unfold S.St.keys at hx
  rw [(List.mergeSort_perm _ _).mem_iff, List.mem_eraseDups, List.mem_map] at hx
  obtain ⟨y, hy, rfl⟩ := hx
  exact (List.of_mem_zip (List.mem_filter.1 hy).1).2
theorem tree_start (w : World) (o1 o2 o3 o4 : Obj) : ((((w.alloc o1).alloc o2).alloc o3).alloc o4).heap[w.heap.size]? = some o1 ∧ ((((w.alloc o1).alloc o2).alloc o3).alloc o4).heap[w.heap.size + 1]? = some o2 ∧ ((((w.alloc o1).alloc o2).alloc o3).alloc o4).heap[w.heap.size + 1 + 1]? = some o3 ∧
    ((((w.alloc o1).alloc o2).alloc o3).alloc o4).heap[w.heap.size + 1 + 1 + 1]? = some o4 ∧ ((((w.alloc o1).alloc o2).alloc o3).alloc o4).heap.size = w.heap.size + 1 + 1 + 1 + 1 ∧ Below w.heap.size w ((((w.alloc o1).alloc o2).alloc o3).alloc o4) := by
  have z1 : (w.alloc o1).heap.size = w.heap.size + 1 := by simp
  have z2 : ((w.alloc o1).alloc o2).heap.size = w.heap.size + 1 + 1 := by simp
  have z3 : (((w.alloc o1).alloc o2).alloc o3).heap.size = w.heap.size + 1 + 1 + 1 := by simp
  refine ⟨?_, ?_, ?_, ?_, by simp, (((((Below.refl _ _).alloc (Nat.le_refl _) _).alloc (by omega) _).alloc (by omega) _).alloc (by omega) _)⟩
  · rw [Below.heap_alloc _ _ _ (by omega), Below.heap_alloc _ _ _ (by omega), Below.heap_alloc _ _ _ (by omega)]; exact heap_new w o1
  · rw [Below.heap_alloc _ _ _ (by omega), Below.heap_alloc _ _ _ (by omega), ← z1]; exact heap_new _ o2
  · rw [Below.heap_alloc _ _ _ (by omega), ← z2]; exact heap_new _ o3
  · rw [← z3]; exact heap_new _ o4
theorem s_empty (l : List S.B) : l.map encStr = strs l := rfl
/-- the names' numbers in the map, of the first k -/
def Told (ks : List S.B) (k : Nat) (D : DataW Unit) : Prop := ∀ j, j < k → D.atKey (.string (ks.getD j [])) (.lit (.int .i64 0)) = .lit (.int .i64 (j : Nat))
theorem Told.step {ks : List S.B} {k : Nat} {D : DataW Unit} (h : Told ks k D) (hD : IsMap D) (hnd : ks.Nodup) (hk : k < ks.length) : Told ks (k + 1) (D.put (.string (ks.getD k [])) (.lit (.int .i64 (k : Nat)))) := by
  intro j hj
  by_cases he : j = k
  · subst he; exact atKey_put_same hD (key_lit _) _ _
  · rw [atKey_put_other]
    · exact h j (by omega)
    · intro e
      simp only [Lit.string.injEq] at e
      rw [List.getD_eq_getElem?_getD, List.getD_eq_getElem?_getD, List.getElem?_eq_getElem (by omega), List.getElem?_eq_getElem hk] at e
      exact he ((List.getElem_inj hnd).1 e)
theorem Told.idx {ks : List S.B} {D : DataW Unit} (h : Told ks ks.length D) {x : S.B} (hx : x ∈ ks) : D.atKey (.string x) (.lit (.int .i64 0)) = .lit (.int .i64 (ks.idxOf x : Nat)) := by
  have hlt := List.idxOf_lt_length_of_mem hx
  have := h _ hlt
  rw [List.getD_eq_getElem?_getD, List.getElem?_eq_getElem hlt] at this
  simpa using this
end Go.Proofs.Ytpfalkdkiffipaa
