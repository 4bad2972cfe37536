/- SolidBoxes returns true for every input: the solid of a box is that of the document, with its bounds and its volume. No condition. -/
import Derived.Test.YtbhgkadklklmbaaGreatQO1
import Derived.Test.YtbhgkadklklmbaaGreatQR
import Derived.Test.YtbhgkadklklmbaaGreatQM
import Derived.Test.YtbhgkadklklmbaaGreatQK
import Derived.Test.YtbhgkadklklmbaaGreatFactsSolidBoxes
set_option linter.unusedVariables false
set_option linter.unusedSimpArgs false
namespace Go.Proofs.YtbhgkadklklmbaaGreat
open Go Go.ChangeShapes Go.WideShapes Go.ChangeAt Go.RowKit Go.Sort Go.Lib

theorem sameSelf (M : List Cell) (a b : Option Addr) (an bn : Nat) (w : World) (hl : M.length ≤ 1000) (hp : ∀ x ∈ M, x.planes.length ≤ 100000) (hv : Cells.V w a M) (hu : Cells.V w b M) :
    Calls Tryz.prog 58 #[.agg #[.slice a M.length an], .agg #[.slice b M.length bn]] w fun e w' => e = .returned (.bool true) ∧ Below w.heap.size w w' :=
 (sameSolid_any M M a b an bn w hl hl hv hu hp hp).mono fun e w' h => ⟨by rw [h.1]; simp, h.2⟩
theorem box_solE {b : Box6} (h : b.fit) : solE [⟨boxP b⟩] = 0 := solE_zero.2 ⟨by simp, fun c hc => by rw [List.mem_singleton] at hc; subst hc; exact box_read h⟩
theorem box_bdE {b : Box6} (h : b.fit) : bdE [⟨boxP b⟩] = 0 := by unfold bdE; rw [if_neg (by simpa using box_solE h), if_neg (by simp)]
theorem box_bdV {b : Box6} (h : b.fit) : bdV [⟨boxP b⟩] = b := by
 unfold bdV
 rw [if_pos (box_bdE h)]
 have hc : crns [⟨boxP b⟩] = corn (boxP b) := by simp [crns]
 rw [hc]
 have hi := box_isBd h
 obtain ⟨c, hcm, -⟩ := hi.x1.2
 exact IsBd.one (bndP_is (List.ne_nil_of_mem hcm) fun c hc => (corn_coRm (box_read h) c hc).r) hi fun c => Iff.rfl
theorem box_volE {b : Box6} (h : b.fit) : volE [⟨boxP b⟩] = 0 := by
 unfold volE
 rw [if_neg (by simpa using box_solE h), if_pos (by simp [box_boxO h])]
theorem box_volV {b : Box6} (h : b.fit) : volV [⟨boxP b⟩] = (b.x2 - b.x1) * (b.y2 - b.y1) * (b.z2 - b.z1) := by
 unfold volV
 rw [if_pos (box_volE h)]
 have e : boxV (boxP b) = b := by unfold boxV; rw [box_boxO h]; rfl
 simp only [List.map_cons, List.map_nil, e]
 exact volB_one h.ok h.x.2.1 h.y.2.1
set_option maxRecDepth 100000 in
set_option maxHeartbeats 16000000 in
theorem walkSolidBoxes (b : Box6) (w : World) (Wb : b.wf) :
    Calls Tryz.prog 11 #[.agg #[.int .i64 b.x1, .int .i64 b.y1, .int .i64 b.z1, .int .i64 b.x2, .int .i64 b.y2, .int .i64 b.z2]] w fun e w' => e = .returned (.bool true) ∧ Below w.heap.size w w' := by
 have HAW := Lib.hid awake_any
 have HO1 := Lib.hid (fun W => ofBox_any b W)
 have HO2 := Lib.hid (fun W => ofBoxR_any b W)
 obtain ⟨E, hE⟩ : ∃ E, E = ofE b := ⟨_, rfl⟩
 obtain ⟨V, hV⟩ : ∃ V, V = ofV b := ⟨_, rfl⟩
 rw [← hE, ← hV] at HO1 HO2
 have HE := Lib.hid hE
 have HV := Lib.hid hV
 have HSS := Lib.hid (fun W ua un va vn (h1 : Cells.V W ua V) (h2 : Cells.V W va V) => sameSelf V ua va un vn W (by rw [hV]; unfold ofV; split <;> simp) (fun x hx => by rw [hV] at hx; unfold ofV at hx; split at hx; (rw [List.mem_singleton] at hx; subst hx; simp [boxP]); cases hx) h1 h2)
 have HFT := Lib.hid (@ofE_fit b)
 have HB0V := Lib.hid (@box_bdV b)
 have HB0E := Lib.hid (@box_bdE b)
 have HV0V := Lib.hid (@box_volV b)
 have HV0E := Lib.hid (@box_volE b)
 clear hE hV
 obtain ⟨x1, y1, z1, x2, y2, z2⟩ := b
 simp only at HV0V
 go_enter Tryz.func11, Tryz.ntmps11
 go_upto_region 1 with fail
 refine gen_world (fun W => (W.cell? ⟨w.heap.size, 0, none⟩ = some (.int .i64 x1) ∧ W.cell? ⟨w.heap.size, 1, none⟩ = some (.int .i64 y1) ∧ W.cell? ⟨w.heap.size, 2, none⟩ = some (.int .i64 z1) ∧ W.cell? ⟨w.heap.size, 3, none⟩ = some (.int .i64 x2) ∧ W.cell? ⟨w.heap.size, 4, none⟩ = some (.int .i64 y2) ∧ W.cell? ⟨w.heap.size, 5, none⟩ = some (.int .i64 z2)) ∧ Below w.heap.size w W) ⟨⟨by simp [go_sem], by simp [go_sem], by simp [go_sem], by simp [go_sem], by simp [go_sem], by simp [go_sem]⟩, by repeat (first | (with_reducible assumption) | exact Below.refl _ _ | (refine Below.setCell ?_ (by first | omega | (simp; omega) | (simp; done)) _) | (refine Below.alloc ?_ (by first | omega | (simp; omega) | (simp; done)) _) | (refine Below.drew ?_))⟩ ?_
 rintro W ⟨⟨s0, s1, s2, s3, s4, s5⟩, hb⟩
 have HB0 := Lib.hid hb
 clear hb
 obtain ⟨gw, hgw⟩ : ∃ g, g = w.heap.size := ⟨_, rfl⟩
 rw [← hgw] at s0 s1 s2 s3 s4 s5 ⊢
 clear hgw
 go_upto_region 3 with (go_at_call 18; refine (HAW.out _).mono ?_; rintro e w1 ⟨rfl, hb⟩; (have s0 := cell_keep hb s0; have s1 := cell_keep hb s1; have s2 := cell_keep hb s2; have s3 := cell_keep hb s3; have s4 := cell_keep hb s4; have s5 := cell_keep hb s5); have HB1 := Lib.hid (HB0.out.trans (hb.mono HB0.out.size)); clear hb)
 go_upto_region 4 with (go_at_call 56; refine (HO1.out _).mono ?_; rintro e w3 ⟨ua, un, rfl, hcv, hb⟩; (have s0 := cell_keep hb s0; have s1 := cell_keep hb s1; have s2 := cell_keep hb s2; have s3 := cell_keep hb s3; have s4 := cell_keep hb s4; have s5 := cell_keep hb s5); have HUV := Lib.hid hcv; have HB3 := Lib.hid (HB1.out.trans (hb.mono HB1.out.size)); clear hb hcv)
 refine gen_world (fun W => W.cell? ⟨w3.heap.size, 0, none⟩ = some (.slice ua V.length un) ∧ Below w3.heap.size w3 W) ⟨by simp [go_sem], by repeat (first | (with_reducible assumption) | exact Below.refl _ _ | (refine Below.setCell ?_ (by first | omega | (simp; omega) | (simp; done)) _) | (refine Below.alloc ?_ (by first | omega | (simp; omega) | (simp; done)) _) | (refine Below.drew ?_))⟩ ?_
 rintro W3 ⟨u0, hb⟩
 (have s0 := cell_keep hb s0; have s1 := cell_keep hb s1; have s2 := cell_keep hb s2; have s3 := cell_keep hb s3; have s4 := cell_keep hb s4; have s5 := cell_keep hb s5)
 have HUV := Lib.hid (HUV.out.keep hb)
 have HB3 := Lib.hid (HB3.out.trans (hb.mono HB3.out.size))
 clear hb
 generalize w3.heap.size = g3 at *
 go_upto_region 5 with (go_at_call 57; refine (HO2.out _).mono ?_; rintro e w4 ⟨va, vn, rfl, hcv, hb⟩; (have s0 := cell_keep hb s0; have s1 := cell_keep hb s1; have s2 := cell_keep hb s2; have s3 := cell_keep hb s3; have s4 := cell_keep hb s4; have s5 := cell_keep hb s5); have u0 := cell_keep hb u0; have HUV := Lib.hid (HUV.out.keep hb); have HVV := Lib.hid hcv; have HB4 := Lib.hid (HB3.out.trans (hb.mono HB3.out.size)); clear hb hcv)
 refine gen_world (fun W => W.cell? ⟨w4.heap.size, 0, none⟩ = some (.slice va V.length vn) ∧ Below w4.heap.size w4 W) ⟨by simp [go_sem], by repeat (first | (with_reducible assumption) | exact Below.refl _ _ | (refine Below.setCell ?_ (by first | omega | (simp; omega) | (simp; done)) _) | (refine Below.alloc ?_ (by first | omega | (simp; omega) | (simp; done)) _) | (refine Below.drew ?_))⟩ ?_
 rintro W4 ⟨v0, hb⟩
 (have s0 := cell_keep hb s0; have s1 := cell_keep hb s1; have s2 := cell_keep hb s2; have s3 := cell_keep hb s3; have s4 := cell_keep hb s4; have s5 := cell_keep hb s5)
 have u0 := cell_keep hb u0
 have HUV := Lib.hid (HUV.out.keep hb)
 have HVV := Lib.hid (HVV.out.keep hb)
 have HB4 := Lib.hid (HB4.out.trans (hb.mono HB4.out.size))
 clear hb
 generalize w4.heap.size = g4 at *
 have HQ := Lib.hid (HSS.out W4 ua un va vn HUV.out HVV.out)
 have en : (E != E) = false := by simp
 by_cases hE : E = 0
 ·have hfit := HFT.out (HE.out.symm.trans hE)
  subst hE
  have HV1 := Lib.hid (show V = [⟨boxP ⟨x1, y1, z1, x2, y2, z2⟩⟩] by rw [HV.out]; unfold ofV; rw [← HE.out, if_pos rfl])
  have HBD := Lib.hid (fun W (h : Cells.V W ua V) => bounds_any V ua un W (by rw [HV1.out]; simp) h (by rw [HV1.out]; intro x hx; rw [List.mem_singleton] at hx; subst hx; simp [boxP]))
  have HVL := Lib.hid (fun W (h : Cells.V W ua V) => volume_any V ua un W (by rw [HV1.out]; simp) h (by rw [HV1.out]; intro x hx; rw [List.mem_singleton] at hx; subst hx; simp [boxP]))
  rw [show bdV V = ⟨x1, y1, z1, x2, y2, z2⟩ by rw [HV1.out]; exact HB0V.out hfit, show bdE V = 0 by rw [HV1.out]; exact HB0E.out hfit] at HBD
  rw [show volV V = (x2 - x1) * (y2 - y1) * (z2 - z1) by rw [HV1.out]; exact HV0V.out hfit, show volE V = 0 by rw [HV1.out]; exact HV0E.out hfit] at HVL
  obtain ⟨⟨r1, r2, r3⟩, ⟨r4, r5, r6⟩, r7, r8, r9⟩ := hfit
  simp only at r1 r2 r3 r4 r5 r6 r7 r8 r9
  have p1 := mul_le (a := x2 - x1) (b := y2 - y1) (A := 600000) (B := 600000) (by omega) (by omega) (by omega) (by omega)
  have p2 := mul_le (a := (x2 - x1) * (y2 - y1)) (b := z2 - z1) (A := 600000 * 600000) (B := 600000) p1.1 (by omega) p1.2 (by omega)
  have q1 : IntKind.i64.wrap (x2 - x1) = x2 - x1 := IntWalk.i64_in _ (by omega)
  have q2 : IntKind.i64.wrap (y2 - y1) = y2 - y1 := IntWalk.i64_in _ (by omega)
  have q3 : IntKind.i64.wrap (z2 - z1) = z2 - z1 := IntWalk.i64_in _ (by omega)
  have q4 : IntKind.i64.wrap ((x2 - x1) * (y2 - y1)) = (x2 - x1) * (y2 - y1) := IntWalk.i64_in _ (by omega)
  have q5 : IntKind.i64.wrap ((x2 - x1) * (y2 - y1) * (z2 - z1)) = (x2 - x1) * (y2 - y1) * (z2 - z1) := IntWalk.i64_in _ (by omega)
  clear r1 r2 r3 r4 r5 r6 r7 r8 r9 p1 p2 HV1 HE HV HFT HB0V HB0E HV0V HV0E
  go_upto_region 9 with (go_at_call 58; refine HQ.out.mono ?_; rintro e w5 ⟨rfl, hb⟩; (have s0 := cell_keep hb s0; have s1 := cell_keep hb s1; have s2 := cell_keep hb s2; have s3 := cell_keep hb s3; have s4 := cell_keep hb s4; have s5 := cell_keep hb s5); have u0 := cell_keep hb u0; have HUV := Lib.hid (HUV.out.keep hb); have HB5 := Lib.hid (HB4.out.trans (hb.mono HB4.out.size)); clear hb)
  go_upto_region 10 with (go_at_call 47; refine (HBD.out _ HUV.out).mono ?_; rintro e w6 ⟨rfl, hb⟩; (have s0 := cell_keep hb s0; have s1 := cell_keep hb s1; have s2 := cell_keep hb s2; have s3 := cell_keep hb s3; have s4 := cell_keep hb s4; have s5 := cell_keep hb s5); have u0 := cell_keep hb u0; have HUV := Lib.hid (HUV.out.keep hb); have HB6 := Lib.hid (HB5.out.trans (hb.mono HB5.out.size)); clear hb)
  refine gen_world (fun W => (W.cell? ⟨w6.heap.size, 0, none⟩ = some (.int .i64 x1) ∧ W.cell? ⟨w6.heap.size, 1, none⟩ = some (.int .i64 y1) ∧ W.cell? ⟨w6.heap.size, 2, none⟩ = some (.int .i64 z1) ∧ W.cell? ⟨w6.heap.size, 3, none⟩ = some (.int .i64 x2) ∧ W.cell? ⟨w6.heap.size, 4, none⟩ = some (.int .i64 y2) ∧ W.cell? ⟨w6.heap.size, 5, none⟩ = some (.int .i64 z2)) ∧ Below w6.heap.size w6 W) ⟨⟨by simp [go_sem], by simp [go_sem], by simp [go_sem], by simp [go_sem], by simp [go_sem], by simp [go_sem]⟩, by repeat (first | (with_reducible assumption) | exact Below.refl _ _ | (refine Below.setCell ?_ (by first | omega | (simp; omega) | (simp; done)) _) | (refine Below.alloc ?_ (by first | omega | (simp; omega) | (simp; done)) _) | (refine Below.drew ?_))⟩ ?_
  rintro W6 ⟨⟨d0, d1, d2, d3, d4, d5⟩, hb⟩
  (have s0 := cell_keep hb s0; have s1 := cell_keep hb s1; have s2 := cell_keep hb s2; have s3 := cell_keep hb s3; have s4 := cell_keep hb s4; have s5 := cell_keep hb s5)
  have u0 := cell_keep hb u0
  have HUV := Lib.hid (HUV.out.keep hb)
  have HB6 := Lib.hid (HB6.out.trans (hb.mono HB6.out.size))
  clear hb
  generalize w6.heap.size = g6 at *
  go_upto_region 11 with (go_at_call 42; refine (HVL.out _ HUV.out).mono ?_; rintro e w7 ⟨rfl, hb⟩; (have s0 := cell_keep hb s0; have s1 := cell_keep hb s1; have s2 := cell_keep hb s2; have s3 := cell_keep hb s3; have s4 := cell_keep hb s4; have s5 := cell_keep hb s5); (have d0 := cell_keep hb d0; have d1 := cell_keep hb d1; have d2 := cell_keep hb d2; have d3 := cell_keep hb d3; have d4 := cell_keep hb d4; have d5 := cell_keep hb d5); have HB7 := Lib.hid (HB6.out.trans (hb.mono HB6.out.size)); clear hb)
  go_wp2_with fail
  go_ret
  exact ⟨rfl, HB7.out⟩
 ·have eb : (E != 0) = true := by simpa using hE
  go_wp2_with (go_at_call 58; refine HQ.out.mono ?_; rintro e w5 ⟨rfl, hb⟩; have HB5 := Lib.hid (HB4.out.trans (hb.mono HB4.out.size)); clear hb)
  go_ret
  exact ⟨rfl, HB5.out⟩
set_option maxRecDepth 100000 in
theorem solidBoxes_walks : Walks 11 Tryz.f11 := by
 intro H enc W base args ds p hval hA hlt
 rw [Tryz.params11] at hA hval
 obtain ⟨v0, vs0, d0, ds0, p0, q0, hargs, rfl, rfl, ⟨fu0, hf0⟩, r0⟩ := trodAll_cons hA
 obtain ⟨rfl, rfl, rfl⟩ := trodAll_nil r0
 obtain rfl : args = #[v0] := by cases args; simp_all
 obtain ⟨cs0, rfl, -⟩ := okWide_struct Tryz.underlying75 (hval 0 75 v0 rfl rfl)
 obtain ⟨x0, hc0, W0⟩ := Box6.open_ hf0
 have hd0 : cs0 = #[.int .i64 x0.x1, .int .i64 x0.y1, .int .i64 x0.z1, .int .i64 x0.x2, .int .i64 x0.y2, .int .i64 x0.z2] := by
  cases cs0; simpa [Value.cells] using hc0
 subst hd0
 exact walkSolidBoxes x0 W W0

set_option maxRecDepth 100000 in
theorem solidBoxes_holds : Rows.SolidBoxesSaid :=
 law_holds (s := Rows.solidBoxesSpec) (c := Rows.solidBoxesRow) 11 Tryz.f11 rfl
  (fun H ds h => by match ds, h with | [_], _ => rfl) (by kernel_rfl) (by kernel_rfl)
  rfl rfl rfl rfl rfl rfl rfl ⟨rfl, rfl, rfl, rfl, rfl⟩ rfl rfl rfl rfl rfl rfl rfl rfl rfl rfl (fun _ _ => rfl) (by kernel_rfl) Tryz.func11
  solidBoxes_closed (of_decide_eq_true (by kernel_rfl)) (by unfold Func.isWrapper; first | (rw [if_pos (by decide +kernel)]; kernel_rfl) | (rw [if_neg (by decide +kernel)]; exact ⟨rfl, rfl⟩)) (by kernel_rfl)
  (fun H enc os => ChangeSpec.witness6 (enc := enc) (C := Tryz.checked) false ⟨#[], #[.agg #[.int .i64 0, .int .i64 0, .int .i64 0, .int .i64 0, .int .i64 0, .int .i64 0]], []⟩ 8 (by kernel_rfl) (by kernel_rfl) (by kernel_rfl) (by kernel_rfl))
  solidBoxes_walks
end Go.Proofs.YtbhgkadklklmbaaGreat
