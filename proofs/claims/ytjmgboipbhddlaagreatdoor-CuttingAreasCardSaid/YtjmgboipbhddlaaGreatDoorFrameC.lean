import Derived.Test.YtjmgboipbhddlaaGreatDoorFrame
import Derived.LaidLaws
import Derived.LaidMore
import Derived.Stop.LaidErr
import Derived.Lib.LaidTab
import Derived.Lib.ItoaNum
set_option linter.unusedVariables false
namespace Go.Proofs.YtjmgboipbhddlaaGreatDoor
open Go Go.ChangeShapes Go.WideShapes Go.ChangeAt Go.RowKit

def TabP (w : World) : Prop := Lib.TabIs Tryz.prog w "internal/strconv.uint64pow10" .u64 Lib.pow10Tab
def lawLaid : List (String × DataW Unit) := [("math/bits.deBruijn32tab", Rows.laid_math_bits_deBruijn32tab), ("math/bits.deBruijn64tab", Rows.laid_math_bits_deBruijn64tab), ("internal/strconv.uint64pow10", Rows.laid_internal_strconv_uint64pow10)]
theorem tabP_of {W : World} (h : laidMetH Tryz.prog lawLaid W) : TabP W := by
 have h' : laidMet Tryz.prog lawLaid W := h
 exact Lib.tabIs_of_head (g := 0) (by kernel_rfl) (by kernel_rfl) (Tryz.underlying212) (Tryz.underlying193) (by kernel_rfl) (by kernel_rfl) (laidMet.tail (laidMet.tail h'))
theorem door_met (os : Os) (args : Array Value) : laidMetH Tryz.prog lawLaid ((World.doorLaid Tryz.prog 400 os).forCall (fun _ _ => 0) ⟨#[], args, []⟩).memory :=
 show laidMet _ _ _ from laidMet_of_run' 8 (by kernel_rfl) (by kernel_rfl)
def WalksC (f : Nat) (fn : Func) : Prop :=
 ∀ (H : Type) (enc : TypeId × Value → H) (W : World) (base : Nat) (args : Array Value) (ds : List (DataW H)) (p : List MemPlace),
  (∀ (j : Nat) t v, fn.params[j]? = some t → args[j]? = some v → Value.okWide Tryz.prog W .any base t v) →
  DataW.TrodAll enc Tryz.prog W 0 (fun _ => true) true fn.params.toList args.toList ds p →
  (∀ x ∈ p, x.block < W.heap.size) → TabP W →
  Calls Tryz.prog f args W fun e W' => e = .returned (.bool true) ∧ Below W.heap.size W W'

set_option maxRecDepth 100000 in
theorem card_row {s : ChangeSpec} {c : OpenClaim} (f : Nat) (fn : Func)
    (hvars : s.vars = [])
    (hspec : ∀ (H : Type) (ds : List (DataW H)), ds.length = fn.params.size → s.fn H ds = { results := [.lit (.bool true)], args := ds })
    (hT : (fn.params.toList.all fun t => Tryz.prog.readableRec t && decide (t < Tryz.prog.types.size)) = true)
    (hres : fn.resultTypes = #[4])
    (hn : c.program = Tryz.pinned.name) (hs : c.sum = Tryz.pinned.sum) (hsp : c.spec = s.name)
    (hstart : c.start = .entering) (hout : c.outside = []) (hin : c.inits = []) (hun : c.under = none) (hi4 : c.initsInPlace = [] ∧ c.initsUnfollowed = false ∧ c.initsRecurse = false ∧ c.initsNamed = [] ∧ c.initsPassed = []) (hnb : c.noBlocks = false) (hlv : c.leaving = false) (hfo : c.followed = none) (hnar : c.narrowed = false) (hstill : c.still = false)
    (happ : c.apart = false) (hfresh : c.fresh = true) (hhands : c.handsOn = false) (hagain : c.again = false) (hass : c.assume = {})
    (hpre : ∀ (H : Type) (enc : TypeId × Value → H), c.pre enc Tryz.checked.prog fn (OpenSpec.ofChange s) = fun w args => (s.pre enc Tryz.checked.prog fn [] false w args ∧ laidMetH Tryz.checked.prog lawLaid w) ∧ sizedMet enc Tryz.checked.prog fn (OpenSpec.ofChange s) false w args)
    (hfn : Tryz.checked.prog.funcNamed c.func = some f) (hf : Tryz.checked.prog.funcs[f]? = some fn)
    (closed : joinedFacts Tryz.checked.prog f fn s c = true)
    (hinst : fn.isInstance Tryz.checked.prog c.origin c.targs) (hwrap : fn.isWrapper Tryz.checked.prog c.wrapper c.mainSum)
    (hnoInit : Tryz.checked.prog.inits.idxOf? f = none)
    (hwit : ∀ (H : Type) (enc : TypeId × Value → H) (os : Os), ∃ (w : World) (tape : Tape) (i : Input), w.os = os ∧ (w.forCall tape i).Shaped Tryz.checked.prog ∧ i.vars = [] ∧ Input.okWide Tryz.checked.prog (w.forCall tape i) .any w.heap.size f i ∧
     ((s.pre enc Tryz.checked.prog fn [] false (w.forCall tape i).memory i.args ∧ laidMetH Tryz.checked.prog lawLaid (w.forCall tape i).memory) ∧ sizedMet enc Tryz.checked.prog fn (OpenSpec.ofChange s) false (w.forCall tape i).memory i.args) ∧ ({} : Assume).holds Tryz.checked.prog (lone (Frame.enter Tryz.checked.prog f i.args .normal) [] (w.forCall tape i)))
    (walk : WalksC f fn) : c.holds Tryz.pinned (OpenSpec.ofChange s) := by
 refine OpenClaim.holds_of_wide (p := Tryz.pinned) (s := s) (c := c) f fn hn hs hsp hstart hout hin hun hi4 hnb hlv hfo hnar hstill hfn hf closed hinst hwrap ?_
 intro os started H enc _
 show ReturnsInHanded c.assume Tryz.checked os f .any _ _
 rw [show c.pre enc Tryz.pinned.checked.prog fn (OpenSpec.ofChange s) = _ from hpre H enc, hass, happ, hfresh, hhands, hagain]
 refine returnsInHanded_of_change_and (C := Tryz.checked) (X := fun w _ => laidMetH Tryz.checked.prog lawLaid w) (fun _ _ _ hh h => h.of_heap hh) own_none started hnoInit hf (hwit H enc os) ?_
 intro W base args ds gs before hval hW _ _ hL _
 have hW' := hW
 have hlt : ∀ x ∈ before, x.block < W.heap.size := fun x hx => hW.lt x hx
 obtain ⟨p, q, hA, hV, rfl, hfz, hnd⟩ := hW
 rw [hvars] at hV
 obtain ⟨rfl, rfl⟩ := trodVars_none hV
 have hlen : ds.length = fn.params.size := by
  have h : ∀ (ts : List TypeId) (vs : List Value) (ds : List (DataW H)) (p : List MemPlace), DataW.TrodAll enc Tryz.checked.prog W 0 (fun _ => true) true ts vs ds p → ds.length = ts.length := by
   intro ts
   induction ts with
   | nil => intro vs ds p h; cases vs <;> cases ds <;> first | rfl | exact h.elim
   | cons t ts ih =>
    intro vs ds p h
    cases vs with
    | nil => exact h.elim
    | cons v vs => cases ds with
     | nil => exact h.elim
     | cons d ds => obtain ⟨_, _, _, h2, _⟩ := h; simp [ih _ _ _ h2]
  simpa using h _ _ _ _ hA
 simp only [List.append_nil] at hW' hlt
 have hT' : ∀ t ∈ fn.params.toList, Tryz.prog.readableRec t = true ∧ t < Tryz.prog.types.size := by
  intro t ht
  have := List.all_eq_true.1 hT t ht
  simpa using this
 refine (walk H enc W base args ds p hval hA hlt (tabP_of hL)).mono fun e W' ⟨he, hb⟩ => ?_
 subst he
 refine ⟨_, rfl, ?_⟩
 have hfnd := hspec H ds hlen
 have hold : ∀ x ∈ p, (fun b => decide (b < W.heap.size)) x.block = true := fun x hx => by simpa using hlt x hx
 have hresv : ∀ (b : Nat) (sp : Nat → Bool) (hd : Bool), DataW.TrodAll enc Tryz.checked.prog W' b sp hd fn.resultTypes.toList ((Value.bool true).resultList fn.resultTypes.size) [.lit (.bool true)] [] := by
  intro b sp hd
  rw [hres]
  exact trodAll_mk1 (shut_bool Tryz.underlying4 _)
 have hok : ∀ (j : Nat) (t : TypeId) (r : Value), fn.resultTypes[j]? = some t → ((Value.bool true).resultList fn.resultTypes.size)[j]? = some r → Value.okWide Tryz.checked.prog W' .any 0 t r := by
  exact ok_one hres rfl (okWide_bool_mk Tryz.underlying4 _)
 refine ⟨ds, [], p, [], p, [], hW', ?_, ?_, ?_, World.keptBut_mono (fun x hx => ⟨hx, ?_⟩) (hb.frame (· ∈ p)), fun _ => ?_⟩
 ·simp only [List.append_nil]; rw [hfnd]; exact hresv _ _ _
 ·simp only [List.append_nil]; rw [hfnd]; exact trodAll_spare laid_out hb _ hT' hA hlt hold
 ·simp only [List.append_nil]; rw [hfnd, hvars]; exact rfl
 ·right; simpa using hx
 ·refine ⟨hok, [.lit (.bool true)] ++ ds, [], ([] ++ p) ++ [], ⟨[] ++ p, [], ?_, ?_, rfl, ?_, ?_⟩, ?_⟩
  ·exact trodAll_append (trodAll_spare laid_out hb _ hT' hA hlt (fun _ _ => rfl)) (hresv _ _ _)
  ·rw [hvars]; exact rfl
  ·intro b off hp
   have hin : MemPlace.cell b off ∈ p := by simpa using hp
   rw [hb.frozen (hlt _ hin)]
   exact hfz b off (by simpa using hin)
  ·intro ha; cases ha
  ·intro x hx _
   simpa using hx
end Go.Proofs.YtjmgboipbhddlaaGreatDoor
