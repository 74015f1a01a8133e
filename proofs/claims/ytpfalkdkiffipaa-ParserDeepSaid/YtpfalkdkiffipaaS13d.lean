/- Plain: the law ParserDeep: many elements, one in the other, and side by side. -/
import Derived.Test.YtpfalkdkiffipaaS13c
namespace Go.Proofs.Ytpfalkdkiffipaa
namespace S
/-- a text, put down n times -/
def rep (x : B) : Nat → B
  | 0 => []
  | n + 1 => rep x n ++ x
theorem rep_cons (x : B) : ∀ n, rep x (n + 1) = x ++ rep x n
  | 0 => by simp [rep]
  | n + 1 => by show rep x (n + 1) ++ x = x ++ (rep x n ++ x); rw [rep_cons x n, List.append_assoc]
theorem rep_len (x : B) (n : Nat) : (rep x n).length = n * x.length := by
  induction n with
  | zero => simp [rep]
  | succ n ih => rw [rep, List.length_append, ih, Nat.succ_mul]
theorem rep_all (x : B) (p : UInt8 → Bool) (h : x.all p = true) (n : Nat) : (rep x n).all p = true := by
  induction n with
  | zero => rfl
  | succ n ih => rw [rep, List.all_append, ih, h]; rfl
def repP (x : List Pc) : Nat → List Pc
  | 0 => []
  | n + 1 => x ++ repP x n
theorem lx_rep (x r : B) (y : List Pc) (hx : x ≠ []) (h : ∀ q, nextL (x ++ q) = some (y, q)) : ∀ n, lx (rep x n ++ r) = (lx r).map fun z => repP y n ++ z
  | 0 => by simp [rep, repP]
  | n + 1 => by
    rw [rep_cons, List.append_assoc, lx_step (x ++ (rep x n ++ r)) (rep x n ++ r) y (by simp [hx]) (h _), lx_rep x r y hx h n]
    cases lx r <;> simp [repP]
def eT : B := [60, 101, 62]
def eC : B := [60, 47, 101, 62]
def eE : B := [60, 101, 47, 62]
theorem next_eT (q : B) : nextL (eT ++ q) = some ([⟨1, [101], []⟩, ⟨3, [], []⟩], q) := by
  have := nextL_tag [101] 62 q (by decide) (by decide)
  rw [atts_gt] at this; exact this
theorem next_eE (q : B) : nextL (eE ++ q) = some ([⟨1, [101], []⟩, ⟨4, [], []⟩], q) := by
  have := nextL_tag [101] 47 (62 :: q) (by decide) (by decide)
  rw [atts_empty] at this; exact this
theorem next_eC (q : B) : nextL (eC ++ q) = some ([⟨5, [101], []⟩], q) := nextL_close [101] q (by decide)
/-- n elements, one in the other -/
def deepDoc (n : Nat) : B := rep eT n ++ rep eC n
theorem lx_deep (n : Nat) : lx (deepDoc n) = some (repP [⟨1, [101], []⟩, ⟨3, [], []⟩] n ++ repP [⟨5, [101], []⟩] n) := by
  unfold deepDoc
  rw [lx_rep eT _ _ (by decide) next_eT]
  have := lx_rep eC [] _ (by decide) next_eC n
  rw [List.append_nil, lx_nil] at this
  rw [this]; simp
/-- n are open, of m that there were -/
def O (m n : Nat) : St := ⟨(List.range m).map fun (i : Nat) => ⟨1, 0, (i : Int) - 1, []⟩, List.replicate m [101], (List.range n).map fun (i : Nat) => (i : Int), [], decide (66 ≤ m), false⟩
theorem O_top (m n : Nat) : (O m n).top = (n : Int) - 1 := by
  unfold St.top O
  cases n with
  | zero => rfl
  | succ n => simp [List.range_succ]
theorem flush_nil (s : St) (h : s.text = []) : s.flush = s := by unfold St.flush; rw [if_pos h]; cases s; simp at h; simp [h]
theorem O_open (n : Nat) : (O n n).stepP ⟨1, [101], []⟩ = O (n + 1) (n + 1) := by
  have ht : ∀ a b c d e, St.top ⟨a, b, (O n n).opn, c, d, e⟩ = (n : Int) - 1 := fun _ _ _ _ _ => O_top n n
  unfold St.stepP
  rw [if_neg (by decide), if_neg (by decide), if_pos rfl]
  unfold St.begin
  rw [flush_nil _ rfl]
  simp only [St.put, ht, O_top]
  simp only [O, List.range_succ, List.map_append, List.map_cons, List.map_nil, List.length_append, List.length_map, List.length_range, List.length_cons, List.length_nil, Bool.false_or, List.replicate_succ', St.mk.injEq, true_and]
  refine ⟨?_, ?_, ?_⟩
  · congr 2; omega
  · have : decide (66 ≤ n) = true ∨ decide (66 ≤ n) = false := by cases decide (66 ≤ n) <;> simp
    simp only [Bool.or_eq_decide, decide_eq_true_eq, decide_eq_decide]; omega
  · simp; omega
theorem O_ready (m n : Nat) : (O m n).stepP ⟨3, [], []⟩ = O m n := rfl
theorem O_close (m n : Nat) (h : n < m) : (O m (n + 1)).stepP ⟨5, [101], []⟩ = O m n := by
  have ht := O_top m (n + 1)
  unfold St.stepP
  rw [if_neg (by decide), if_neg (by decide), if_neg (by decide), if_neg (by decide), if_neg (by decide), if_pos rfl]
  unfold St.end_
  rw [flush_nil _ rfl]
  simp only []
  rw [ht, if_neg]
  · simp [O, List.range_succ]
  · rintro (h1 | h1)
    · omega
    · apply h1
      simp only [O]
      rw [show ((((n + 1 : Nat) : Int) - 1).toNat) = n from by omega, List.getD_eq_getElem?_getD, List.getElem?_replicate, if_pos h]; rfl
theorem fold_opens : ∀ k n, (repP [⟨1, [101], []⟩, ⟨3, [], []⟩] k).foldl St.stepP (O n n) = O (n + k) (n + k)
  | 0, _ => rfl
  | k + 1, n => by rw [repP, List.foldl_append, List.foldl_cons, List.foldl_cons, List.foldl_nil, O_open, O_ready, fold_opens k (n + 1)]; congr 1 <;> omega
theorem fold_closes (m : Nat) : ∀ k, k ≤ m → (repP [⟨5, [101], []⟩] k).foldl St.stepP (O m k) = O m 0
  | 0, _ => rfl
  | k + 1, h => by rw [repP, List.foldl_append, List.foldl_cons, List.foldl_nil, O_close m k (by omega), fold_closes m k (by omega)]
theorem dups_rep (a : B) (k : Nat) : (List.replicate (k + 1) a).eraseDups = [a] := by
  rw [List.replicate_succ, List.eraseDups_cons]
  congr 1
  rw [List.filter_eq_nil_iff.2]
  · rfl
  · intro x hx; rw [List.eq_of_mem_replicate hx]; simp
theorem keys_len (s : St) (h : ∀ x ∈ s.nodes, x.kind ≠ 3) (hl : s.names.length = s.nodes.length) : s.keys.length = s.names.eraseDups.length := by
  unfold St.keys
  rw [List.length_mergeSort, List.filter_eq_self.2, List.map_snd_zip (by omega)]
  intro x hx
  have := h x.1 (List.of_mem_zip hx).1
  simpa using this
theorem deep_tree (m : Nat) (h0 : 0 < m) (h1 : m ≤ 5000) : ∃ t, (O m 0).tree = (if 66 ≤ m then .error 18 else .ok t : Except Int (List B × List Node)) := by
  obtain ⟨k, rfl⟩ : ∃ k, m = k + 1 := ⟨m - 1, by omega⟩
  have hk : (O (k + 1) 0).keys.length = 1 := by
    rw [keys_len _ (by intro x hx; simp [O] at hx; obtain ⟨i, _, rfl⟩ := hx; simp) (by simp [O])]
    show (List.replicate (k + 1) ([101] : B)).eraseDups.length = 1
    rw [dups_rep]; rfl
  unfold St.tree
  rw [if_neg (by simp [O])]
  by_cases h : 66 ≤ k + 1
  · rw [if_pos (.inl (by simp [O]; omega))]; exact ⟨([], []), by rw [if_pos h]⟩
  · rw [if_neg]
    · exact ⟨_, by rw [if_neg h]⟩
    · rw [hk]; simp [O]; omega
theorem all_valid (l : B) (h : l.all (fun c => decide (32 ≤ c.toNat) && decide (c.toNat < 127)) = true) : valid l = true := by
  refine valid_plain l ?_
  unfold plainB
  rw [List.all_eq_true] at h ⊢
  intro c hc
  have := h c hc
  simp only [Bool.and_eq_true, decide_eq_true_eq] at this
  simp only [Bool.and_eq_true, decide_eq_true_eq]
  refine ⟨by omega, ?_⟩
  unfold allowed point
  simp; omega
theorem deep_law (n : Nat) (h0 : 0 < n) (h1 : n ≤ 5000) : ∃ t, parse (deepDoc n) = if 66 ≤ n then .error 18 else .ok t := by
  obtain ⟨t, ht⟩ := deep_tree n h0 h1
  refine ⟨t, ?_⟩
  rw [parse_L]
  unfold parseL
  rw [if_neg (by unfold deepDoc; rw [List.length_append, rep_len, rep_len]; simp [eT, eC]; omega), if_neg (by rw [all_valid]; simp; unfold deepDoc; rw [List.all_append, rep_all eT _ (by decide), rep_all eC _ (by decide)]; rfl), lx_deep]
  simp only []
  rw [List.foldl_append, show St.new = O 0 0 from rfl, fold_opens n 0, Nat.zero_add, fold_closes n n (Nat.le_refl n), flush_nil _ rfl, ht]
/-- m elements side by side, in one -/
def wideDoc (m : Nat) : B := [60, 114, 62] ++ rep eE m ++ [60, 47, 114, 62]
theorem lx_wide (m : Nat) : lx (wideDoc m) = some ([⟨1, [114], []⟩, ⟨3, [], []⟩] ++ (repP [⟨1, [101], []⟩, ⟨4, [], []⟩] m ++ [⟨5, [114], []⟩])) := by
  have h1 : nextL (wideDoc m) = some ([⟨1, [114], []⟩, ⟨3, [], []⟩], rep eE m ++ [60, 47, 114, 62]) := by
    have := nextL_tag [114] 62 (rep eE m ++ [60, 47, 114, 62]) (by decide) (by decide)
    rw [atts_gt] at this
    unfold wideDoc; rw [List.append_assoc]; exact this
  have h2 : lx [60, 47, 114, 62] = some [⟨5, [114], []⟩] := by
    rw [lx_step [60, 47, 114, 62] [] [⟨5, [114], []⟩] (by simp) (nextL_close [114] [] (by decide)), lx_nil]; rfl
  rw [lx_step _ _ _ (by simp [wideDoc]) h1, lx_rep eE _ _ (by decide) next_eE, h2]
  simp
/-- k elements in the first one, which is open (1) or not (0) -/
def V (k n : Nat) : St := ⟨⟨1, 0, -1, []⟩ :: List.replicate k ⟨1, 0, 0, []⟩, [114] :: List.replicate k [101], (List.range n).map fun (i : Nat) => (i : Int), [], false, false⟩
theorem V_step (k : Nat) : ((V k 1).stepP ⟨1, [101], []⟩).stepP ⟨4, [], []⟩ = V (k + 1) 1 := by
  have e : (V k 1).stepP ⟨1, [101], []⟩ = ⟨⟨1, 0, -1, []⟩ :: List.replicate (k + 1) ⟨1, 0, 0, []⟩, [114] :: List.replicate (k + 1) [101], [0, (k : Int) + 1], [], false, false⟩ := by
    unfold St.stepP
    rw [if_neg (by decide), if_neg (by decide), if_pos rfl]
    unfold St.begin
    rw [flush_nil _ rfl]
    simp [St.put, St.top, V, List.replicate_succ']
  rw [e]
  unfold St.stepP
  rw [if_neg (by decide), if_neg (by decide), if_neg (by decide), if_neg (by decide), if_pos rfl]
  unfold St.end_
  rw [flush_nil _ rfl]
  rw [if_neg]
  · rfl
  · rintro (h1 | h1)
    · simp [St.top] at h1; omega
    · exact h1 rfl
theorem fold_wide : ∀ k n, (repP [⟨1, [101], []⟩, ⟨4, [], []⟩] k).foldl St.stepP (V n 1) = V (n + k) 1
  | 0, _ => rfl
  | k + 1, n => by rw [repP, List.foldl_append, List.foldl_cons, List.foldl_cons, List.foldl_nil, V_step, fold_wide k (n + 1)]; congr 1; omega
theorem V_close (k : Nat) : (V k 1).stepP ⟨5, [114], []⟩ = V k 0 := by
  unfold St.stepP
  rw [if_neg (by decide), if_neg (by decide), if_neg (by decide), if_neg (by decide), if_neg (by decide), if_pos rfl]
  unfold St.end_
  rw [flush_nil _ rfl]
  rw [if_neg]
  · rfl
  · rintro (h1 | h1)
    · simp [V, St.top] at h1
    · exact h1 rfl
theorem wide_keys (k : Nat) : (V k 0).keys.length ≤ 2 := by
  rw [keys_len _ (by intro x hx; simp [V] at hx; rcases hx with rfl | ⟨_, rfl⟩ <;> simp) (by simp [V])]
  show (([114] : B) :: List.replicate k [101]).eraseDups.length ≤ 2
  rw [List.eraseDups_cons, List.filter_eq_self.2 (by intro x hx; rw [List.eq_of_mem_replicate hx]; rfl)]
  cases k with
  | zero => simp
  | succ k => rw [dups_rep]; simp
theorem wide_law (m : Nat) (h1 : m ≤ 10000) : ∃ ks ns, parse (wideDoc m) = (if 5000 ≤ m then .error 18 else .ok (ks, ns)) ∧ ns.length = m + 1 := by
  have hk := wide_keys m
  refine ⟨(V m 0).keys, ((V m 0).nodes.zip (V m 0).names).map fun x => if x.1.kind = 3 then x.1 else { x.1 with name := (V m 0).keys.idxOf x.2 }, ?_, by simp [V]⟩
  rw [parse_L]
  unfold parseL
  rw [if_neg (by unfold wideDoc; rw [List.length_append, List.length_append, rep_len]; simp [eE]; omega), if_neg (by rw [all_valid]; simp; unfold wideDoc; rw [List.all_append, List.all_append, rep_all eE _ (by decide)]; rfl), lx_wide]
  simp only []
  have e : ([⟨1, [114], []⟩, ⟨3, [], []⟩] : List Pc).foldl St.stepP St.new = V 0 1 := rfl
  rw [List.foldl_append, e, List.foldl_append, fold_wide m 0, Nat.zero_add, List.foldl_cons, List.foldl_nil, V_close, flush_nil _ rfl]
  unfold St.tree
  rw [if_neg (by simp [V])]
  by_cases h : 5000 ≤ m
  · rw [if_pos (.inr (.inl (by simp [V]; omega))), if_pos h]
  · rw [if_neg, if_neg h]
    rintro (h2 | h2 | h2)
    · simp [V] at h2
    · simp [V] at h2; omega
    · omega
end S
end Go.Proofs.Ytpfalkdkiffipaa
