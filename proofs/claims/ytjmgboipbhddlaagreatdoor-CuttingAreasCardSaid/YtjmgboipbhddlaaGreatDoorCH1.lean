import Derived.Test.YtjmgboipbhddlaaGreatDoorQN
import Derived.Test.YtjmgboipbhddlaaGreatDoorA8
import Derived.Test.YtjmgboipbhddlaaGreatDoorVG
import Derived.Test.YtjmgboipbhddlaaGreatDoorShelf
import Derived.Lib.OwnBridge
import Derived.Deep.CutBlock
set_option linter.unusedVariables false
set_option linter.unusedSimpArgs false
namespace Go.Proofs.YtjmgboipbhddlaaGreatDoor
open Go Go.RowKit

instance boardI : Inhabited Board := ⟨⟨⟨#[]⟩, ⟨#[]⟩, 0, 0, 0, 0, 0, []⟩⟩
def zeroBd : Value := .agg #[.string ⟨#[]⟩, .string ⟨#[]⟩, .int .i64 0, .int .i64 0, .int .i64 0, .int .i64 0, .int .i64 0, .slice none 0 0]
theorem board_info : (Tryz.prog.info? 52).map (fun i => (i.zero, i.size, i.bytes)) = some (some zeroBd, 8, 96) := by kernel_rfl
structure StockCh (w : World) (a : Option Addr) (l : List Board) (AD : Nat → Option Addr) (CD : Nat → Nat) : Prop where
 ch : ∀ k b, l[k]? = some b → (∃ g off, a = some ⟨g, off, none⟩ ∧ CellsBd w g (off + k * 8) b (AD k) (CD k)) ∧ Rects.V w (AD k) b.defects ∧ b.defects.length ≤ CD k ∧ CD k ≤ maxLen ∧ b.wf
theorem stock_ch {w : World} {a : Option Addr} {l : List Board} (h : Boards.V w a l) : ∃ (AD : Nat → Option Addr) (CD : Nat → Nat), StockCh w a l AD CD := by
 have hh : ∀ k : Nat, ∃ p : Option Addr × Nat, ∀ b, l[k]? = some b → (∃ g off, a = some ⟨g, off, none⟩ ∧ CellsBd w g (off + k * 8) b p.1 p.2) ∧ Rects.V w p.1 b.defects ∧ b.defects.length ≤ p.2 ∧ p.2 ≤ maxLen ∧ b.wf := by
  intro k
  by_cases hk : k < l.length
  ·obtain ⟨b, off, ha, hx⟩ := h (by intro e; subst e; simp at hk)
   obtain ⟨ad, cd, k0, k1, k2, k3, k4, k5, k6, k7, hr, h1, h2, h3⟩ := hx k _ (List.getElem?_eq_getElem hk)
   refine ⟨(ad, cd), fun b' hb' => ?_⟩
   rw [List.getElem?_eq_getElem hk] at hb'
   injection hb' with hb'
   subst hb'
   exact ⟨⟨b, off, ha, ⟨k0, k1, k2, k3, k4, k5, k6, k7⟩⟩, hr, h1, h2, h3⟩
  ·exact ⟨(none, 0), fun b hb => by rw [List.getElem?_eq_none (by omega)] at hb; cases hb⟩
 exact ⟨fun k => (Classical.choose (hh k)).1, fun k => (Classical.choose (hh k)).2, ⟨fun k b hb => Classical.choose_spec (hh k) b hb⟩⟩
end Go.Proofs.YtjmgboipbhddlaaGreatDoor
