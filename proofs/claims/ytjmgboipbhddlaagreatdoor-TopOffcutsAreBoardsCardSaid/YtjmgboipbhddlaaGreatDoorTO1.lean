/- The sawn desk, the greedy plan of a small job. -/
import Derived.Test.YtjmgboipbhddlaaGreatDoorQU
import Derived.Laws.EntriesVeiled
import Derived.RangeFuncLeaves
import Derived.Shelf.Abstract
import Derived.WalkKit
import Derived.OwnWalkIn
import Derived.TacticsInMore
import Derived.LoopNIn
import Derived.LoopIn
import Derived.Test.YtjmgboipbhddlaaGreatDoorPL7
import Derived.Test.YtjmgboipbhddlaaGreatDoorQG
import Derived.Test.YtjmgboipbhddlaaGreatDoorJob7
set_option linter.unusedVariables false
set_option linter.unusedSimpArgs false
namespace Go.Proofs.YtjmgboipbhddlaaGreatDoor
open Go Go.ChangeShapes Go.WideShapes Go.ChangeAt Go.RowKit
theorem sawn_any (w : World) : Calls Tryz.prog 14 #[] w fun e w' => e = .returned (.bool true) ∧ Below w.heap.size w w' := by
  go_enter Tryz.func14, Tryz.ntmps14
  go_upto_region 3 with (first
    | (go_at_call 22; refine (desk_any _).mono ?_; rintro e w1 ⟨a1, c1, a2, c2, rfl, hs, hb, hbw⟩; have HS := Lib.hid hs; have HB := Lib.hid hb; have HB1 := Lib.hid hbw; clear hs hb hbw)
    | (go_at_call 17; refine (deskGreedy_any a1 c1 a2 c2 _ HS.out HB.out).mono ?_; rintro e w2 ⟨a3, c3, rfl, hbw⟩; have HB2 := Lib.hid (HB1.out.trans (hbw.mono HB1.out.size)); clear hbw)
    | (go_at_call 24; refine (deskLeast_any _ _ _ (intsV_keep (ints_new2 _ _ _ _ _ (by simp)) ((Below.refl _ _).alloc (Nat.le_refl _) _)) (ints_new3 _ _ _ _ _ _ (by simp))).mono ?_; rintro e w4 ⟨rfl, hbw⟩; have HB4 := Lib.hid (((HB2.out.alloc HB2.out.size _).alloc (by have := HB2.out.size; simp; omega) _).trans (hbw.mono (by have := HB2.out.size; simp; omega))); clear hbw))
  go_wp2_with fail
  go_ret
  exact ⟨rfl, HB4.out⟩
theorem planE_ok {j : Job} (h : jobE j = 0) : planE j = greedyM j.stock j.blanks j.trim := by unfold planE; rw [if_neg (by simp [h])]
theorem small_few {j : Job} (hs : smallB j = true) (h : jobE j = 0) : j.blanks.length < 20 := by
  have hp := (jobOk_of h).lenB
  have hl := smallB_lens hs
  unfold smallL at hl
  omega
theorem small_bd {j : Job} (hs : smallB j = true) (h : jobE j = 0) : j.stock.length ≤ 4 ∧ j.blanks.length ≤ 5 ∧ ∀ x ∈ j.blanks, x.count ≤ 6 := by
  have hJ := jobOk_of h
  have hp := hJ.lenB
  have hq := hJ.lenS
  have hl := smallB_lens hs
  unfold smallL at hl
  refine ⟨by omega, by omega, fun x hx => ?_⟩
  unfold smallB at hs
  rw [Bool.and_eq_true, Bool.and_eq_true] at hs
  have hb := List.all_eq_true.1 hs.2.2 x hx
  unfold blankSm at hb
  rw [Bool.not_eq_true', Bool.eq_false_iff] at hb
  simp only [ne_eq, Bool.or_eq_true, Bool.and_eq_true, decide_eq_true_eq] at hb
  have := (hJ.want x hx).2
  omega
theorem run_good {stock : List Board} {blanks : List Blank} {kerf : Int} (hf : 0 ≤ kerf) (hw : ∀ x ∈ blanks, 0 < x.length ∧ 0 < x.width) : ∀ (seq : List Nat) (B : Nat) (L L' : List BS), (∀ i ∈ seq, i < blanks.length) → GoodL B L → L.length = stock.length → runM kerf stock blanks seq L = some L' → GoodL (B + 6 * seq.length) L'
  | [], B, L, L', _, hL, _, h => by unfold runM at h; injection h with h; subst h; simpa using hL
  | i :: seq, B, L, L', hi, hL, hl, h => by
    unfold runM at h
    split at h
    · rename_i L1 h1
      have hb : bl blanks i ∈ blanks := by unfold bl; rw [List.getD_eq_getElem?_getD, List.getElem?_eq_getElem (hi i List.mem_cons_self)]; exact List.getElem_mem _
      obtain ⟨g1, g2⟩ := good_putAll hL hl hf (hw _ hb).1 (hw _ hb).2 h1
      have := run_good hf hw seq (B + 6) L1 L' (fun x hx => hi x (List.mem_cons_of_mem _ hx)) g1 g2 h
      rw [List.length_cons, show B + 6 * (seq.length + 1) = B + 6 + 6 * seq.length by omega]
      exact this
    · cases h
theorem outGo_none : ∀ (L : List BS) (i : Nat) (acc : List (Nat × List Cut)), outGo i L acc = none → ∃ s ∈ L, 400 < s.cuts.length
  | [], i, acc, h => by unfold outGo at h; cases h
  | s :: L, i, acc, h => by
    unfold outGo at h
    split at h
    · exact ⟨s, List.mem_cons_self, by assumption⟩
    · obtain ⟨t, ht, h2⟩ := outGo_none L _ _ h
      exact ⟨t, List.mem_cons_of_mem _ ht, h2⟩
theorem flatLen (f : Nat → Nat) (n : Nat) : ∀ (l : List Nat), (∀ i ∈ l, f i ≤ n) → (l.flatMap fun i => List.replicate (f i) i).length ≤ n * l.length
  | [], _ => by simp
  | i :: l, h => by
    have h1 := flatLen f n l fun x hx => h x (List.mem_cons_of_mem _ hx)
    have h2 := h i List.mem_cons_self
    rw [List.flatMap_cons, List.length_append, List.length_replicate, List.length_cons, Nat.mul_add]
    omega
theorem greedy_code {j : Job} (hs : smallB j = true) (h : jobE j = 0) : (greedyM j.stock j.blanks j.trim).2 = 0 ∨ (greedyM j.stock j.blanks j.trim).2 = 12 := by
  obtain ⟨h4, h5, h6⟩ := small_bd hs h
  have hJ := jobOk_of h
  have hlen : (seqM j.blanks).length ≤ 30 := by
    have hp := orderM_perm (l := j.blanks)
    have hl := hp.length_eq
    rw [List.length_range] at hl
    have := flatLen (fun i => (bl j.blanks i).count.toNat) 6 (orderM j.blanks) fun i hi => by
      have hi2 := List.mem_range.1 (hp.mem_iff.1 hi)
      have hb : bl j.blanks i ∈ j.blanks := by unfold bl; rw [List.getD_eq_getElem?_getD, List.getElem?_eq_getElem hi2]; exact List.getElem_mem _
      have := h6 _ hb
      omega
    unfold seqM
    omega
  unfold greedyM
  split
  · right; rfl
  · rename_i L hL
    split
    · rename_i hn
      obtain ⟨s, hs1, hs2⟩ := outGo_none _ _ _ hn
      have hg := run_good hJ.trim.1.1 (fun x hx => by have := (hJ.want x hx).1; omega) (seqM j.blanks) 1 _ _ (fun i hi => seq_lt hi) (good_start (fun b hb => by have := hJ.size b hb; omega) hJ.trim.2.1.1 hJ.trim.2.2.1) (by unfold startM; simp) hL
      have := (hg.good s hs1).2
      omega
    · left; rfl
theorem greedy_plan {j : Job} (hE : jobE j = 0) {r : List (Nat × List Cut)} (hg : greedyM j.stock j.blanks j.trim = (r, 0)) : (planL r).length ≤ 1000 ∧ (∀ l ∈ planL r, l.cuts.length ≤ 100000) ∧ (planE2 j (planL r)).2 = 0 := by
  obtain ⟨h1, h2⟩ := greedy_accepted hE hg
  have h3 := (jobOk_of hE).lenS
  obtain ⟨-, hlay, -⟩ := plan_parts (j := j) (plan := planL r) (by rw [h1])
  refine ⟨by unfold planL; rw [List.length_map]; omega, fun l hl => ?_, by rw [h1]⟩
  have h4 := layGo_ok hlay l hl
  have := (lay_okR hE h4.1 h4.2).2.1
  omega
end Go.Proofs.YtjmgboipbhddlaaGreatDoor
