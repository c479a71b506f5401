/- The wheel's smaller functions: Now, Len, Cancel; a nil wheel; Arm of what is no time. -/
import Derived.Test.YtdnaeebehkplpaaWheelBase
namespace Go.Proofs.Ytdnaeebehkplpaa
open Go.RowKit Go.Maps
set_option linter.unusedVariables false
set_option linter.unusedSimpArgs false

theorem Wh.mapped {w w' : World} {b mb now n cnt cnt' sz sz' : Nat} {d d' : Int → Nat} {vs : Nat → Value} {sl : Nat → List Tm} (h : Wh w b mb now n cnt d sz vs sl) (hk : Kept [mb] w w') (hm : Mp w' mb cnt' d' sz') : Wh w' b mb now n cnt' d' sz' vs sl := by
  obtain ⟨cs, h0, hrest⟩ := h.blk
  exact ⟨⟨cs, hk.blk h0 (by simp [h.bm]), hrest⟩, hm, fun i hi => (h.own i hi).kept hk (fun k hk' hm => by simp at hm; subst hm; exact (h.nb i hi).2 hk'), h.bm, h.nb, h.ap⟩

theorem now_any {w : World} {b mb now n cnt sz : Nat} {d : Int → Nat} {vs : Nat → Value} {sl : Nat → List Tm} (h : Wh w b mb now n cnt d sz vs sl) :
    Calls Try.prog 17 #[.pointer (some ⟨b, 0, none⟩)] w fun e w' => e = .returned (.int .u64 (now : Int)) ∧ w = w' := by
  have c0 := h.c0
  clear h
  go_enter Try.func17, Try.ntmps17
  go_wp2
  go_ret
  exact ⟨rfl, rfl⟩
theorem now_nil (w : World) : Calls Try.prog 17 #[.pointer none] w fun e w' => e = .returned (.int .u64 0) ∧ w = w' := by
  go_enter Try.func17, Try.ntmps17
  go_wp2
  go_ret
  exact ⟨rfl, rfl⟩
theorem len_any {w : World} {b mb now n cnt sz : Nat} {d : Int → Nat} {vs : Nat → Value} {sl : Nat → List Tm} (h : Wh w b mb now n cnt d sz vs sl) :
    Calls Try.prog 14 #[.pointer (some ⟨b, 0, none⟩)] w fun e w' => e = .returned (.int .i64 (sz : Int)) ∧ w = w' := by
  have c2 := h.c2
  have HM := hid h.map
  clear h
  go_enter Try.func14, Try.ntmps14
  go_wp2_with (at_len; refine wpList_len_Mp _ rfl (.tmp 8) rfl HM.out rfl ?_)
  go_ret
  exact ⟨rfl, rfl⟩
theorem len_nil (w : World) : Calls Try.prog 14 #[.pointer none] w fun e w' => e = .returned (.int .i64 0) ∧ w = w' := by
  go_enter Try.func14, Try.ntmps14
  go_wp2
  go_ret
  exact ⟨rfl, rfl⟩
theorem cancel_nil (id : Int) (w : World) : Calls Try.prog 15 #[.pointer none, .int .i64 id] w fun e w' => e = .returned (.int .i64 6) ∧ w = w' := by
  go_enter Try.func15, Try.ntmps15
  go_wp2
  go_ret
  exact ⟨rfl, rfl⟩
theorem cancel_none {w : World} {b mb now n cnt sz : Nat} {d : Int → Nat} {vs : Nat → Value} {sl : Nat → List Tm} (h : Wh w b mb now n cnt d sz vs sl) (id : Int) (hw : (Lit.int .i64 id).wf = true) (hd : d id = 0) :
    Calls Try.prog 15 #[.pointer (some ⟨b, 0, none⟩), .int .i64 id] w fun e w' => e = .returned (.int .i64 6) ∧ w = w' := by
  have c2 := h.c2
  have HM := hid h.map
  have HW := hid hw
  clear h hw
  go_enter Try.func15, Try.ntmps15
  go_wp2_with (at_lookup; refine wpList_look_ok_Mp _ rfl (.tmp 13) (.tmp 14) rfl HM.out rfl rfl HW.out ?_)
  go_ret
  exact ⟨rfl, rfl⟩
theorem cancel_ok {w : World} {b mb now n cnt sz : Nat} {d : Int → Nat} {vs : Nat → Value} {sl : Nat → List Tm} (h : Wh w b mb now n cnt d sz vs sl) (id : Int) (hw : (Lit.int .i64 id).wf = true) (hd : ¬ d id = 0) :
    Calls Try.prog 15 #[.pointer (some ⟨b, 0, none⟩), .int .i64 id] w fun e w' => e = .returned (.int .i64 0) ∧ Wh w' b mb now n cnt (fun i => if i = id then 0 else d i) (sz - 1) vs sl ∧ Kept [mb] w w' := by
  have c2 := h.c2
  have H := hid h
  have HW := hid hw
  have HD := hid hd
  clear h hw
  go_enter Try.func15, Try.ntmps15
  go_wp2_with (first
    | (at_lookup; refine wpList_look_ok_Mp _ rfl (.tmp 13) (.tmp 14) rfl H.out.map rfl rfl HW.out ?_)
    | (at_delete; refine wpList_delete_Mp _ rfl (.tmp 23) (.tmp 24) rfl H.out.map rfl rfl HW.out ?_; intro w1 hm1 hk1; have HM1 := hid hm1; have HK1 := hid hk1; clear hm1 hk1))
  go_ret
  have hm := HM1.out
  rw [if_neg HD.out] at hm
  exact ⟨rfl, H.out.mapped HK1.out hm, HK1.out⟩
theorem arm_nil (id k : Int) (w : World) : Calls Try.prog 12 #[.pointer none, .int .i64 id, .int .u64 k] w fun e w' => e = .returned (.int .i64 6) ∧ w = w' := by
  go_enter Try.func12, Try.ntmps12
  go_wp2
  go_ret
  exact ⟨rfl, rfl⟩
theorem arm_bad {w : World} {b mb now n cnt sz : Nat} {d : Int → Nat} {vs : Nat → Value} {sl : Nat → List Tm} (h : Wh w b mb now n cnt d sz vs sl) (hnow : now ≤ 1152921504606846976) (id k : Int) (hk0 : 0 ≤ k) (hk : k ≤ 18446744073709551615)
    (hb : k < 1 ∨ 1152921504606846976 < (now : Int) + k) :
    Calls Try.prog 12 #[.pointer (some ⟨b, 0, none⟩), .int .i64 id, .int .u64 k] w fun e w' => e = .returned (.int .i64 1) ∧ w = w' := by
  have c0 := h.c0
  have hn0 : (now : Int) ≤ 1152921504606846976 := by omega
  clear h
  by_cases h1 : k < 1
  · go_enter Try.func12, Try.ntmps12
    go_wp2
    go_ret
    exact ⟨rfl, rfl⟩
  · have hb2 : 1152921504606846976 < (now : Int) + k := by omega
    by_cases h2 : 1152921504606846976 < k
    · go_enter Try.func12, Try.ntmps12
      go_wp2
      go_ret
      exact ⟨rfl, rfl⟩
    · go_enter Try.func12, Try.ntmps12
      go_wp2
      go_ret
      exact ⟨rfl, rfl⟩
theorem tick_nil (w : World) : Calls Try.prog 13 #[.pointer none] w fun e w' => e = .returned (.tuple #[.slice none 0 0, .int .i64 6]) ∧ w = w' := by
  go_enter Try.func13, Try.ntmps13
  go_wp2
  go_ret2
  exact ⟨rfl, rfl⟩
theorem tick_last {w : World} {b mb now n cnt sz : Nat} {d : Int → Nat} {vs : Nat → Value} {sl : Nat → List Tm} (h : Wh w b mb now n cnt d sz vs sl) (hn : 1152921504606846976 ≤ now) (hn2 : now ≤ 18446744073709551615) :
    Calls Try.prog 13 #[.pointer (some ⟨b, 0, none⟩)] w fun e w' => e = .returned (.tuple #[.slice none 0 0, .int .i64 1]) ∧ w = w' := by
  have c0 := h.c0
  have hni : (1152921504606846976 : Int) ≤ (now : Int) := by omega
  clear h
  go_enter Try.func13, Try.ntmps13
  go_wp2
  go_ret2
  exact ⟨rfl, rfl⟩
theorem due_nil (id : Int) (w : World) : Calls Try.prog 18 #[.pointer none, .int .i64 id] w fun e w' => e = .returned (.tuple #[.int .u64 0, .int .i64 6]) ∧ w = w' := by
  go_enter Try.func18, Try.ntmps18
  go_wp2
  go_ret2
  exact ⟨rfl, rfl⟩
end Go.Proofs.Ytdnaeebehkplpaa
