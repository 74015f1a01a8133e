/- The law's helper of chapter 13: awake. -/
import Derived.Test.YtpfalkdkiffipaaP13n
import Derived.Test.YtpfalkdkiffipaaS13e
namespace Go.Proofs.Ytpfalkdkiffipaa
open Go.RowKit
set_option maxRecDepth 100000
attribute [local go_sem] byt_at byt_wrap cell_lit
theorem parse_at1 (w : World) (hG : G w) : Calls Try.prog 14 #[.string ⟨#[60, 97, 32, 98, 61, 39, 49, 39, 62, 120, 60, 99, 47, 62, 121, 60, 47, 97, 62]⟩] w fun e w' => Below w.heap.size w w' ∧ ∃ vk gn ck cn, e = .returned (.tuple #[.agg #[.slice vk 3 ck, .slice (some ⟨gn, 0, none⟩) 5 cn], .int .i64 0]) ∧ 5 ≤ cn ∧ gn < w'.heap.size ∧
    w'.cell? ⟨gn, 0, none⟩ = some (.int .i64 1) ∧ w'.cell? ⟨gn, 2, none⟩ = some (.int .i64 (-1)) ∧ w'.cell? ⟨gn, 7, none⟩ = some (.string ⟨#[49]⟩) ∧ w'.cell? ⟨gn, 13, none⟩ = some (.int .i64 2) ∧ w'.cell? ⟨gn, 19, none⟩ = some (.string ⟨#[121]⟩) := by
  refine (parse_any ⟨#[60, 97, 32, 98, 61, 39, 49, 39, 62, 120, 60, 99, 47, 62, 121, 60, 47, 97, 62]⟩ w hG).mono ?_
  rintro e w' ⟨hb, hm⟩
  have hp : S.parse ((⟨#[60, 97, 32, 98, 61, 39, 49, 39, 62, 120, 60, 99, 47, 62, 121, 60, 47, 97, 62]⟩ : ByteArray).data.toList) = _ := S.parse_awake1
  rw [hp] at hm
  obtain ⟨vk, vn, rfl, h1, h2, _⟩ := hm
  obtain ⟨ak, ck, rfl⟩ := row_form h1
  obtain ⟨gn, cn, rfl, hc, hg, _, hcell⟩ := row_nodes h2 rfl (by decide)
  exact ⟨hb, ak, gn, ck, cn, rfl, hc, hg, (hcell 0 _ rfl).1, (hcell 0 _ rfl).2.2.1, (hcell 1 _ rfl).2.2.2, (hcell 3 _ rfl).2.1, (hcell 4 _ rfl).2.2.2⟩
theorem parse_at2 (w : World) (hG : G w) : Calls Try.prog 14 #[.string ⟨#[60, 97, 62, 60, 98, 62, 60, 47, 97, 62, 60, 47, 98, 62]⟩] w fun e w' => Below w.heap.size w w' ∧ e = .returned (.tuple #[.agg #[.slice none 0 0, .slice none 0 0], .int .i64 15]) := by
  refine (parse_any ⟨#[60, 97, 62, 60, 98, 62, 60, 47, 97, 62, 60, 47, 98, 62]⟩ w hG).mono ?_
  rintro e w' ⟨hb, hm⟩
  have hp : S.parse ((⟨#[60, 97, 62, 60, 98, 62, 60, 47, 97, 62, 60, 47, 98, 62]⟩ : ByteArray).data.toList) = _ := S.parse_awake2
  rw [hp] at hm
  exact ⟨hb, hm⟩
set_option maxHeartbeats 8000000 in
theorem awake13 (w : World) (hG : G w) : Calls Try.prog 12 #[] w fun e w' => e = .returned (.bool true) ∧ Below w.heap.size w w' := by
  go_enter Try.func12, Try.ntmps12
  go_wp2_with fail
  refine (parse_at1 w hG).mono ?_
  rintro e w1 ⟨hb1, vk, gn, ck, cn, rfl, hc, hg, k1, k2, k3, k4, k5⟩
  have HB1 := Lib.hid hb1; clear hb1
  go_wp2_with fail
  have hg1 : ∀ o : Obj, Below w1.heap.size w1 (w1.alloc o) := fun o => (Below.refl _ _).alloc (Nat.le_refl _) o
  refine (parse_at2 _ (hG.ext (HB1.out.trans ((hg1 _).mono (by have := HB1.out.size; omega))))).mono ?_
  rintro e w2 ⟨hb2, rfl⟩
  have hb3 : Below w1.heap.size w1 w2 := (hg1 _).trans (hb2.mono (by simp))
  have hblk : w2.heap[w1.heap.size]? = some (.cells #[.slice vk 3 ck, .slice (some ⟨gn, 0, none⟩) 5 cn] 39 (0, 0)) := (hb2.block w1.heap.size (by simp)).trans (heap_new w1 _)
  have t0 : w2.cell? ⟨w1.heap.size, 0, none⟩ = some (.slice vk 3 ck) := block_cell hblk 0
  have t1 : w2.cell? ⟨w1.heap.size, 1, none⟩ = some (.slice (some ⟨gn, 0, none⟩) 5 cn) := block_cell hblk 1
  have j1 := (hb3.cell (p := ⟨gn, 0, none⟩) hg).trans k1
  have j2 := (hb3.cell (p := ⟨gn, 2, none⟩) hg).trans k2
  have j3 := (hb3.cell (p := ⟨gn, 7, none⟩) hg).trans k3
  have j4 := (hb3.cell (p := ⟨gn, 13, none⟩) hg).trans k4
  have j5 := (hb3.cell (p := ⟨gn, 19, none⟩) hg).trans k5
  have HB3 := Lib.hid (HB1.out.trans (hb3.mono HB1.out.size))
  have hal : ∀ (o : Obj) (a : Addr) (v : Value), w2.cell? a = some v → (w2.alloc o).cell? a = some v := fun o a v h => (((Below.refl _ _).alloc (Nat.le_refl _) o).cell (World.block_lt_of_cell? w2 _ h)).trans h
  have t0' := fun o => hal o _ _ t0
  have t1' := fun o => hal o _ _ t1
  have j1' := fun o => hal o _ _ j1
  have j2' := fun o => hal o _ _ j2
  have j3' := fun o => hal o _ _ j3
  have j4' := fun o => hal o _ _ j4
  have j5' := fun o => hal o _ _ j5
  clear hal
  clear hb2 hb3 hblk k1 k2 k3 k4 k5 hg1
  go_wp2_with fail
  go_ret
  exact ⟨rfl, HB3.out.trans ((Below.refl _ _).alloc (by have := HB3.out.size; omega) _)⟩
end Go.Proofs.Ytpfalkdkiffipaa
