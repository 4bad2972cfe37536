/- The fewest bars, by trying all (plain). -/
import Derived.Test.YtoelfalmmaddlaaBM
set_option linter.unusedVariables false
set_option linter.unusedSimpArgs false
namespace Go.Proofs.Ytoelfalmmaddlaa

def cntT (u : List Bool) : Nat := u.countP fun b => b
def pickM (room : List Int) (c : Int) (sub : Nat → Int) : Nat → Int
  | 0 => -1
  | k + 1 => if room.getD k 0 < c then pickM room c sub k else if 0 ≤ sub k ∧ (pickM room c sub k < 0 ∨ sub k < pickM room c sub k) then sub k else pickM room c sub k
def fewM (kerf : Int) : List Int → List Int → List Bool → Int
  | [], _, used => (cntT used : Int)
  | m :: ls, room, used => pickM room (m + kerf) (fun i => fewM kerf ls (room.set i (room.getD i 0 - m - kerf)) (used.set i true)) room.length
theorem pick_min {room : List Int} {c : Int} {sub : Nat → Int} : ∀ k, (∀ i, i < k → ¬ room.getD i 0 < c → 0 ≤ sub i → 0 ≤ pickM room c sub k ∧ pickM room c sub k ≤ sub i) ∧ (0 ≤ pickM room c sub k → ∃ i, i < k ∧ ¬ room.getD i 0 < c ∧ pickM room c sub k = sub i)
  | 0 => ⟨fun i h => by omega, fun h => by simp [pickM] at h⟩
  | k + 1 => by
    obtain ⟨h1, h2⟩ := pick_min (room := room) (c := c) (sub := sub) k
    rw [pickM]
    by_cases hr : room.getD k 0 < c
    · rw [if_pos hr]
      refine ⟨fun i hi hn hs => ?_, fun h => ?_⟩
      · by_cases e : i = k
        · subst e; exact absurd hr hn
        · exact h1 i (by omega) hn hs
      · obtain ⟨i, hi, h3⟩ := h2 h
        exact ⟨i, by omega, h3⟩
    · rw [if_neg hr]
      by_cases hs : 0 ≤ sub k ∧ (pickM room c sub k < 0 ∨ sub k < pickM room c sub k)
      · rw [if_pos hs]
        refine ⟨fun i hi hn hs' => ?_, fun _ => ⟨k, by omega, hr, rfl⟩⟩
        by_cases e : i = k
        · subst e; exact ⟨hs.1, Int.le_refl _⟩
        · have := h1 i (by omega) hn hs'
          omega
      · rw [if_neg hs]
        refine ⟨fun i hi hn hs' => ?_, fun h => ?_⟩
        · by_cases e : i = k
          · subst e; omega
          · exact h1 i (by omega) hn hs'
        · obtain ⟨i, hi, h3⟩ := h2 h
          exact ⟨i, by omega, h3⟩
/-- An assignment of the lengths to bars, carried out. -/
def runA (kerf : Int) : List Int → List Nat → List Int → List Bool → Option (List Bool)
  | [], [], _, used => some used
  | m :: ls, a :: as, room, used => if a < room.length ∧ ¬ room.getD a 0 < m + kerf then runA kerf ls as (room.set a (room.getD a 0 - m - kerf)) (used.set a true) else none
  | _, _, _, _ => none
theorem few_min {kerf : Int} : ∀ (ls room : List Int) (used : List Bool), (∀ as u, runA kerf ls as room used = some u → 0 ≤ fewM kerf ls room used ∧ fewM kerf ls room used ≤ (cntT u : Int)) ∧ (0 ≤ fewM kerf ls room used → ∃ as u, runA kerf ls as room used = some u ∧ (cntT u : Int) = fewM kerf ls room used)
  | [], room, used => by
    refine ⟨fun as u h => ?_, fun _ => ⟨[], used, rfl, rfl⟩⟩
    cases as with
    | nil => rw [runA] at h; injection h with h; subst h; rw [fewM]; omega
    | cons a as => simp [runA] at h
  | m :: ls, room, used => by
    obtain ⟨p1, p2⟩ := pick_min (room := room) (c := m + kerf) (sub := fun i => fewM kerf ls (room.set i (room.getD i 0 - m - kerf)) (used.set i true)) room.length
    rw [fewM]
    refine ⟨fun as u h => ?_, fun h => ?_⟩
    · cases as with
      | nil => simp [runA] at h
      | cons a as =>
        rw [runA] at h
        split at h
        · rename_i hc
          obtain ⟨q1, -⟩ := few_min ls (room.set a (room.getD a 0 - m - kerf)) (used.set a true)
          have h1 := q1 as u h
          have h2 := p1 a hc.1 hc.2 h1.1
          exact ⟨h2.1, Int.le_trans h2.2 h1.2⟩
        · cases h
    · obtain ⟨i, hi, hn, e⟩ := p2 h
      rw [e] at h ⊢
      obtain ⟨-, q2⟩ := few_min ls (room.set i (room.getD i 0 - m - kerf)) (used.set i true)
      obtain ⟨as, u, h1, h2⟩ := q2 h
      exact ⟨i :: as, u, by rw [runA, if_pos ⟨hi, hn⟩]; exact h1, h2⟩
/-- What lies in a bar. -/
def sumA (kerf : Int) (b : Nat) : List Int → List Nat → Int
  | m :: ls, a :: as => (if a = b then m + kerf else 0) + sumA kerf b ls as
  | _, _ => 0
theorem sumA_nn {kerf : Int} {b : Nat} : ∀ {ls : List Int} {as : List Nat}, (∀ m ∈ ls, 0 ≤ m + kerf) → 0 ≤ sumA kerf b ls as
  | [], _, _ => by simp [sumA]
  | _ :: _, [], _ => by simp [sumA]
  | m :: ls, a :: as, h => by
    have h1 := sumA_nn (b := b) (as := as) fun x hx => h x (List.mem_cons_of_mem _ hx)
    have h2 := h m List.mem_cons_self
    rw [sumA]
    split <;> omega
theorem getD_set {α : Type} (l : List α) (i j : Nat) (x d : α) (hi : i < l.length) : (l.set i x).getD j d = if i = j then x else l.getD j d := by
  rw [List.getD_eq_getElem?_getD, List.getElem?_set, List.getD_eq_getElem?_getD]
  by_cases e : i = j
  · subst e; simp [hi]
  · simp [e]
/-- An assignment goes if no bar is overfull. -/
theorem run_ok {kerf : Int} : ∀ (ls : List Int) (as : List Nat) (room : List Int) (used : List Bool), as.length = ls.length → used.length = room.length → (∀ m ∈ ls, 0 ≤ m + kerf) → (∀ a ∈ as, a < room.length) → (∀ b, b < room.length → sumA kerf b ls as ≤ room.getD b 0) →
    ∃ u, runA kerf ls as room used = some u ∧ u.length = used.length ∧ ∀ b, b < used.length → (u.getD b false = true ↔ used.getD b false = true ∨ b ∈ as)
  | [], [], room, used, _, _, _, _, _ => ⟨used, rfl, rfl, fun b _ => by simp⟩
  | [], _ :: _, _, _, h, _, _, _, _ => by simp at h
  | _ :: _, [], _, _, h, _, _, _, _ => by simp at h
  | m :: ls, a :: as, room, used, hl, hu, hm, ha, hs => by
    have ha0 := ha a List.mem_cons_self
    have hm0 := hm m List.mem_cons_self
    have hsa := hs a ha0
    rw [sumA, if_pos rfl] at hsa
    have hnn := sumA_nn (b := a) (as := as) fun x hx => hm x (List.mem_cons_of_mem _ hx)
    obtain ⟨u, h1, h2, h3⟩ := run_ok ls as (room.set a (room.getD a 0 - m - kerf)) (used.set a true) (by simpa using hl) (by simpa using hu) (fun x hx => hm x (List.mem_cons_of_mem _ hx)) (fun x hx => by rw [List.length_set]; exact ha x (List.mem_cons_of_mem _ hx)) (fun b hb => by
      rw [List.length_set] at hb
      rw [getD_set _ _ _ _ _ ha0]
      have := hs b hb
      rw [sumA] at this
      split
      · rename_i e; subst e; rw [if_pos rfl] at this; omega
      · rename_i e; rw [if_neg e] at this; omega)
    refine ⟨u, by rw [runA, if_pos ⟨ha0, by omega⟩]; exact h1, by rw [h2, List.length_set], fun b hb => ?_⟩
    rw [h3 b (by rw [List.length_set]; exact hb), getD_set _ _ _ _ _ (by omega), List.mem_cons]
    by_cases e : a = b
    · subst e; simp
    · have e' : ¬ b = a := fun h => e h.symm
      simp [e, e']
/-- Where an assignment goes, no bar is overfull. -/
theorem run_fits {kerf : Int} : ∀ (ls : List Int) (as : List Nat) (room : List Int) (used u : List Bool), used.length = room.length → runA kerf ls as room used = some u → as.length = ls.length ∧ (∀ a ∈ as, a < room.length) ∧ (∀ b, b < room.length → sumA kerf b ls as ≤ room.getD b 0 ∨ b ∉ as) ∧ u.length = used.length ∧ ∀ b, b < used.length → (u.getD b false = true ↔ used.getD b false = true ∨ b ∈ as)
  | [], [], room, used, u, _, h => by
    rw [runA] at h; injection h with h; subst h
    exact ⟨rfl, fun a ha => by simp at ha, fun b _ => .inr (by simp), rfl, fun b _ => by simp⟩
  | [], _ :: _, _, _, _, _, h => by simp [runA] at h
  | _ :: _, [], _, _, _, _, h => by simp [runA] at h
  | m :: ls, a :: as, room, used, u, hu, h => by
    rw [runA] at h
    split at h
    · rename_i hc
      obtain ⟨h1, h2, h3, h4, h5⟩ := run_fits ls as _ _ u (by simpa using hu) h
      refine ⟨by simp [h1], fun x hx => ?_, fun b hb => ?_, by rw [h4, List.length_set], fun b hb => ?_⟩
      · rcases List.mem_cons.1 hx with rfl | hx
        · exact hc.1
        · have := h2 x hx; rwa [List.length_set] at this
      · have h6 := h3 b (by rw [List.length_set]; exact hb)
        rw [getD_set _ _ _ _ _ hc.1] at h6
        by_cases e : a = b
        · subst e
          rw [if_pos rfl] at h6
          left
          rw [sumA, if_pos rfl]
          rcases h6 with h6 | h6
          · omega
          · have h7 : ∀ (ls : List Int) (as : List Nat), a ∉ as → sumA kerf a ls as = 0 := by
              intro ls
              induction ls with
              | nil => intro as _; cases as <;> simp [sumA]
              | cons x ls ih =>
                intro as hn
                cases as with
                | nil => simp [sumA]
                | cons y as =>
                  rw [List.mem_cons, not_or] at hn
                  rw [sumA, if_neg (fun e => hn.1 e.symm), ih as hn.2]; rfl
            rw [h7 ls as h6]
            omega
        · rw [if_neg e] at h6
          rcases h6 with h6 | h6
          · left; rw [sumA, if_neg e]; omega
          · right; rw [List.mem_cons, not_or]; exact ⟨fun h => e h.symm, h6⟩
      · rw [h5 b (by rw [List.length_set]; exact hb), getD_set _ _ _ _ _ (by omega), List.mem_cons]
        by_cases e : a = b
        · subst e; simp
        · have e' : ¬ b = a := fun h => e h.symm
          simp [e, e']
    · cases h
end Go.Proofs.Ytoelfalmmaddlaa
