import Derived.Test.YtjmgboipbhddlaaGreatDoorRows
import Derived.WalkKit
import Derived.ProofKit
import Derived.Carry
namespace Go.Proofs.YtjmgboipbhddlaaGreatDoor
open Go Go.ChangeShapes Go.WideShapes Go.ChangeAt Go.RowKit

theorem own_none : ownKnob Tryz.prog.godebug = none := by kernel_rfl
theorem laid_out : laidOutB Tryz.prog = true := by kernel_rfl

theorem trodAll_spare {H : Type} {enc : TypeId × Value → H} {P : Program} (hl : laidOutB P = true) {W W' : World} (hb : Below W.heap.size W W') (sp : Nat → Bool)
    {ts : List TypeId} {vs : List Value} {ds : List (DataW H)} {ps : List MemPlace} (hT : ∀ t ∈ ts, P.readableRec t = true ∧ t < P.types.size)
    (h : DataW.TrodAll enc P W 0 (fun _ => true) true ts vs ds ps) (hlt : ∀ x ∈ ps, x.block < W.heap.size) (hsp : ∀ p ∈ ps, sp p.block = true) :
    DataW.TrodAll enc P W' 0 sp true ts vs ds ps := by
 induction ts generalizing vs ds ps with
 | nil =>
  cases vs with
  | nil => cases ds with
   | nil => exact h
   | cons _ _ => exact h.elim
  | cons _ _ => exact h.elim
 | cons t ts ih =>
  cases vs with
  | nil => exact h.elim
  | cons v vs => cases ds with
   | nil => exact h.elim
   | cons d ds =>
    obtain ⟨p, q, h1, h2, e⟩ := h
    refine ⟨p, q, ?_, ih (fun t ht => hT t (List.mem_cons.2 (Or.inr ht))) h2 (fun x hx => hlt x (by rw [e]; exact List.mem_append_right _ hx)) (fun x hx => hsp x (by rw [e]; exact List.mem_append_right _ hx)), e⟩
    exact WideElems.Trod_stays hl (hT _ (List.mem_cons.2 (Or.inl rfl))).1 (hT _ (List.mem_cons.2 (Or.inl rfl))).2 h1 (fun x hx => hb.same (hlt x (by rw [e]; exact List.mem_append_left _ hx)))
     (fun x hx => hsp x (by rw [e]; exact List.mem_append_left _ hx))

end Go.Proofs.YtjmgboipbhddlaaGreatDoor
