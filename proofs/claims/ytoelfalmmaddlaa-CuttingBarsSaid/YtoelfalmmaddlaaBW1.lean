/- The rooms of bars, and a copy of numbers, of the document's side. -/
import Derived.Test.YtoelfalmmaddlaaRR
import Derived.Test.YtoelfalmmaddlaaQL
import Derived.Test.YtoelfalmmaddlaaBO
set_option linter.unusedVariables false
set_option linter.unusedSimpArgs false
namespace Go.Proofs.Ytoelfalmmaddlaa
open Go Go.RowKit

set_option maxRecDepth 100000 in
set_option maxHeartbeats 2000000 in
theorem copyInts_any (a : Option Addr) (l : List Int) (c : Nat) (w : World) (hv : IntsV w a l) (hl : l.length ≤ 1000) : Calls Try.prog 21 #[.slice a l.length c] w (RowPost w l) := by
  obtain ⟨i0, hi, hz0, hz1, hz2⟩ := info_parts int_info
  have hown : (w.alloc (.cells #[] 3)).ownsRow w.heap.size 3 1 (.slice (some ⟨w.heap.size, 0, none⟩) 0 0) 0 [] := by
    have h := made_own (w := w) (base := w.heap.size) (n := 0) (T := 3) (z := .int .i64 0) (Nat.le_refl _) (by unfold maxLen; omega)
    rw [show madeCells #[Value.int .i64 0] 0 = #[] from Array.eq_empty_of_size_eq_zero (by simp [size_madeCells])] at h
    exact h
  go_enter Try.func21, Try.ntmps21
  go_wp2_with (at_builtin; go_loud (refine wpList_append_ints rfl _ _ rfl w.heap.size i0 hi hz0 hz1 hz2 _ 0 [] rfl hown a l c rfl (intsV_keep hv ((Below.refl _ _).alloc (Nat.le_refl _) _)) (by omega) (by simp) ?_); intro v9 w9 ho9 hg9; have HO9 := Lib.hid ho9; have HG9 := Lib.hid hg9; clear ho9 hg9)
  go_ret
  refine ⟨_, rfl, ?_, ?_⟩
  · have h := HO9.out
    rw [Nat.zero_add, List.nil_append] at h
    exact h
  · exact ((Below.refl _ _).alloc (Nat.le_refl _) _).grown HG9.out (by simp) (fun q hq => own_base hown hq)
set_option maxRecDepth 100000 in
set_option maxHeartbeats 4000000 in
theorem rooms_any (a1 a2 : Option Addr) (st ln : List Int) (c1 c2 : Nat) (kerf : Int) (w : World) (hv : IntsV w a1 st) (hl : st.length ≤ 1000) (hst : ∀ m ∈ st, 0 ≤ m ∧ m ≤ 600000) (hk : 0 ≤ kerf ∧ kerf ≤ 10000) :
    Calls Try.prog 10 #[.agg #[.slice a1 st.length c1, .slice a2 ln.length c2, .int .i64 kerf]] w (RowPost w (st.map (· + kerf))) := by
  obtain ⟨i0, hi0, hz0, hz1, hz2⟩ := info_parts int_info
  have HV := Lib.hid hv
  have HST := Lib.hid hst
  have hmix : Try.prog.follows .mixedOrders = true := by kernel_rfl
  clear hv hst
  go_enter Try.func10, Try.ntmps10
  go_upto_region 1 with fail
  refine gen_world (fun W => CB W w.heap.size a1 st.length c1 a2 ln.length c2 kerf ∧ Below w.heap.size w W ∧ w.heap.size < W.heap.size) ⟨⟨by simp [go_sem], by simp [go_sem], by simp [go_sem]⟩, by repeat (first | (with_reducible assumption) | exact Below.refl _ _ | (refine Below.setCell ?_ (by first | omega | (simp; omega) | (simp; done)) _) | (refine Below.alloc ?_ (by first | omega | (simp; omega) | (simp; done)) _) | (refine Below.drew ?_)), by simp⟩ ?_
  rintro W ⟨hC, hbW, hz⟩
  obtain ⟨gj, hgj⟩ : ∃ g, g = w.heap.size := ⟨_, rfl⟩
  have hzj : gj < W.heap.size := by omega
  rw [← hgj] at hC ⊢
  have HC := Lib.hid hC
  have HBW := Lib.hid hbW
  clear hbW hz hgj hC
  go_wp2_with fail
  go_loopw [3, 4] (fun v iv wr => ∃ k : Nat, k ≤ st.length ∧ iv = .int .i64 k ∧ Hid (wr.ownsRow W.heap.size 3 1 v k (((st.take k).map (· + kerf)).map (Value.int .i64))) ∧ Below W.heap.size W wr) (fun _ iv _ => st.length - (intOf iv).toNat)
  case atStart => exact ⟨0, Nat.zero_le _, rfl, Lib.hid (World.ownsRow_nil _ _ _ _), Below.refl _ _⟩
  case round =>
    obtain ⟨k, hk', rfl, HOW, hbr⟩ := hrel
    obtain ⟨av, cv, rfl, -, -⟩ := own_slice HOW.out
    obtain ⟨wo, rfl⟩ : ∃ wo : World, wo = wr := ⟨_, rfl⟩
    have HBO := Lib.hid hbr
    have hCO := HC.out.keep hbr
    have hbw := HBW.out.trans (hbr.mono HBW.out.size)
    obtain ⟨q0, q1, q2⟩ := hCO
    by_cases hlt : k < st.length
    · have hki : (k : Int) < (st.length : Int) := by omega
      have v1 : IntKind.i64.wrap ((k : Int) + 1) = (k : Int) + 1 := IntWalk.i64_in _ (by omega)
      obtain ⟨b, off, ha, hx⟩ := HV.out (by intro e; subst e; simp at hlt)
      subst ha
      have hc := cell_keep hbw (hx k _ (List.getElem?_eq_getElem hlt))
      have hms := HST.out _ (List.getElem_mem hlt)
      have HTK := Lib.hid (show st.take (k + 1) = st.take k ++ [st[k]] from List.take_succ_eq_append_getElem hlt)
      generalize st[k] = x at *
      have v2 : IntKind.i64.wrap (x + kerf) = x + kerf := IntWalk.i64_in _ (by omega)
      have hzo : W.heap.size ≤ wo.heap.size := hbr.size
      clear hx hbw hbr
      go_upto_region 5 with fail
      have kx0 : ∀ y : KW (fun W' => Below wo.heap.size wo W'), (y.w.cell? ⟨gj, 0, none⟩ = some (.slice (some ⟨b, off, none⟩) st.length c1) ∧ y.w.cell? ⟨gj, 2, none⟩ = some (.int .i64 kerf)) ∧ y.w.cell? ⟨b, off + k, none⟩ = some (.int .i64 x) := fun y => ⟨⟨cell_keep y.ok q0, cell_keep y.ok q2⟩, cell_keep y.ok hc⟩
      haveI n1 : Nonempty (KW (fun W' => Below wo.heap.size wo W')) := ⟨⟨wo, Below.refl _ _⟩⟩
      refine wp_region_tree (fun w' => ∃ y : KW (fun W' => Below wo.heap.size wo W'), w' = y.w) 10 (.take 0 (.take 1 (.take 2 (.take 3 (.take 4 (.take 5 (.take 6 (.take 7 (.take 8 (.one 9 .done)))))))))) hmix (by kernel_rfl) (KW.mk' (Below.refl _ _).drew) ?_
      have hB0 : Below wo.heap.size wo wo.drew := (Below.refl _ _).drew
      generalize wo.drew = w9 at *
      have HB9 := Lib.hid hB0
      have hz9 := hB0.size
      clear hB0
      repeat (refine wpTree_take ?_; simp only [nthOp]; (first | go_big_quiet_step (fail) | quiet_step (fail)); refine wpQuiet_nil ?_)
      refine wpTree_one ?_
      simp only [nthOp]
      go_wp2_with fail
      refine One_mk (KW.mk' (HB9.out.alloc HB9.out.size _)) ?_
      refine wpTree_done ?_
      simp only [List.drop_succ_cons, List.drop_zero]
      clear kx0 n1 q0 q1 q2 hc
      go_wp2_with (at_builtin; refine wpList_append_here _ rfl _ _ 22 rfl W.heap.size 3 i0 (.int .i64 0) 1 8 Try.underlying22 hi0 hz0 hz1 hz2 rfl (by decide) _ k _ rfl (own_keep (own_keep HOW.out HB9.out) ((Below.refl _ _).alloc (Nat.le_refl _) _)) ⟨w9.heap.size, 0, none⟩ 1 1 [.int .i64 (x + kerf)] rfl rfl (news_of [.int .i64 (x + kerf)] _ _ _ rfl) (by intro u hu; rw [List.mem_singleton.1 hu]; rfl) (by decide) (by simp only [maxLen]; omega) (by omega) (by simp; omega) ?_; intro v8 w8 ho9 hg9 hv9; have HO9 := Lib.hid ho9; have HG9 := Lib.hid hg9; clear ho9 hg9 hv9)
      refine NP_mk ?_
      go_wp2_with fail
      go_roundw
      case rel =>
        refine ⟨k + 1, by omega, by go_num, Lib.hid ?_, ?_⟩
        · rw [HTK.out, List.map_append, List.map_append]; exact HO9.out
        · exact ((HBO.out.trans (HB9.out.mono HBO.out.size)).alloc (by omega) _).grown HG9.out (by simp; omega) (fun q hq => own_base HOW.out hq)
      case measure => first | (simp [intOf]; done) | (simp [intOf]; omega)
    · obtain rfl : k = st.length := by omega
      have hki : ¬ ((st.length : Nat) : Int) < ((st.length : Nat) : Int) := by omega
      have hW := HBW.out.size
      have ho := HOW.out
      rw [List.take_length] at ho
      go_wp2_with fail
      go_ret
      exact ⟨_, rfl, by rw [List.length_map]; exact own_mono ho hW, hbw⟩
end Go.Proofs.Ytoelfalmmaddlaa
