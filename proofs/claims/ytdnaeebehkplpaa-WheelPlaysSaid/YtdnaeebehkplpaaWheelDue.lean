/- The wheel's 'Due'. -/
import Derived.Test.YtdnaeebehkplpaaWheelTick
import Derived.Deep.MidRow
namespace Go.Proofs.Ytdnaeebehkplpaa
open Go.RowKit Go.Maps
set_option linter.unusedVariables false
set_option linter.unusedSimpArgs false

def slotRow (vs : Nat → Value) (k : Nat) : List Value := (List.range 16).map fun j => vs (16 * k + j)
theorem slotRow_len (vs : Nat → Value) (k : Nat) : (slotRow vs k).length = 16 := by simp [slotRow]
theorem slotRow_at (vs : Nat → Value) (k j : Nat) (hj : j < 16) : (slotRow vs k)[j]? = some (vs (16 * k + j)) := by simp [slotRow, hj]
theorem Wh.row {w : World} {b mb now n cnt sz : Nat} {d : Int → Nat} {vs : Nat → Value} {sl : Nat → List Tm} (h : Wh w b mb now n cnt d sz vs sl) (k : Nat) (hk : k < 5) : w.rangeAt b (3 + k * 16) (slotRow vs k) := by
  intro j v hv
  have hj : j < 16 := by have := (List.getElem?_eq_some_iff.1 hv).1; rw [slotRow_len] at this; exact this
  rw [slotRow_at _ _ _ hj] at hv
  cases hv
  have := h.cs (16 * k + j) (by omega)
  rw [← this]
  congr 2
  omega
theorem slot_index (X : List Value) (hX : X.length = 16) (j : Nat) (v : Value) (hv : X[j]? = some v) (w : World) : (Instr.index 64 (.agg X.toArray) (.int .i64 (j : Int))).run Try.prog w = .ok v w := by
  have hj : j < 16 := by have := (List.getElem?_eq_some_iff.1 hv).1; omega
  have hu := Try.underlying64
  have hs := Try.underlying63
  simp [Instr.index, asIntOf, run_underlying hu, hj]
  have ha : (isAgg 63).run Try.prog w = .ok false w := by
    unfold isAgg
    rw [Sem.run_bind, run_underlying hs w]
    rfl
  simp [Go.part, Sem.run_bind, ha, hv]
theorem due_none {w : World} {b mb now n cnt sz : Nat} {d : Int → Nat} {vs : Nat → Value} {sl : Nat → List Tm} (h : Wh w b mb now n cnt d sz vs sl) (id : Int) (hw : (Lit.int .i64 id).wf = true) (hd : d id = 0) :
    Calls Try.prog 18 #[.pointer (some ⟨b, 0, none⟩), .int .i64 id] w fun e w' => e = .returned (.tuple #[.int .u64 0, .int .i64 6]) ∧ w = w' := by
  have c2 := h.c2
  have HM := hid h.map
  have HW := hid hw
  clear h hw
  go_enter Try.func18, Try.ntmps18
  go_wp2_with (at_lookup; refine wpList_look_ok_Mp _ rfl (.tmp 21) (.tmp 22) rfl HM.out rfl rfl HW.out ?_)
  go_ret2
  exact ⟨rfl, rfl⟩
set_option maxRecDepth 100000 in
set_option maxHeartbeats 4000000 in
theorem due_ok {w : World} {b mb now n cnt sz : Nat} {d : Int → Nat} {vs : Nat → Value} {sl : Nat → List Tm} (h : Wh w b mb now n cnt d sz vs sl) (id : Int) (hw : (Lit.int .i64 id).wf = true) (D m : Nat) (hm : d id = m) (hd : ¬ m = 0)
    (hex : ∃ i, i < 81 ∧ ∃ t ∈ sl i, t.n = m) (hall : ∀ i, i < 81 → ∀ t ∈ sl i, t.n = m → t.due = D) (hl : ∀ i, i < 81 → (sl i).length ≤ 100000000) :
    Calls Try.prog 18 #[.pointer (some ⟨b, 0, none⟩), .int .i64 id] w fun e w' => e = .returned (.tuple #[.int .u64 (D : Int), .int .i64 0]) ∧ Kept [] w w' := by
  have c2 := h.c2
  have H := hid h
  have HW := hid hw
  have HD := hid hd
  have HM := hid hm
  have HEX := hid hex
  have HALL := hid hall
  have HL := hid hl
  have hdi : decide (m ≠ 0) = true := by simp; omega
  clear h hw hd hm hex hall hl
  go_enter Try.func18, Try.ntmps18
  go_wp2_with (at_lookup; refine wpList_look_ok_Mp _ rfl (.tmp 21) (.tmp 22) rfl H.out.map rfl rfl HW.out ?_; rw [HM.out])
  clear hdi c2
  go_loopw [8, 10, 12, 28] (fun u1 u2 u3 kv wr => ∃ k : Nat, k ≤ 5 ∧ kv = .int .i64 (k : Int) ∧ Kept [] w wr ∧ ∀ i, i < 16 * k → ∀ t ∈ sl i, ¬ t.n = m) (fun _ _ _ kv _ => 5 - (intOf kv).toNat)
  case atStart => exact ⟨0, by omega, rfl, Kept.refl _ _, by omega⟩
  case round =>
    obtain ⟨k, hk, rfl, hK, hno⟩ := hrel
    have HK := hid hK
    have HNO := hid hno
    clear hK hno
    by_cases hk5 : k < 5
    · have hk5i : (k : Int) < 5 := by omega
      obtain ⟨X, hX⟩ : ∃ X, X = slotRow vs k := ⟨_, rfl⟩
      have hXl : X.length = 16 := by rw [hX]; exact slotRow_len vs k
      have HX := hid hX
      have HXl := hid hXl
      have HC := hid (by rw [hX]; exact (H.out.still HK.out).row k hk5 : wr.rangeAt b (3 + k * 16) X)
      clear hX hXl
      go_wp2_with (with_reducible refine wpList_load_mid rfl 64 (.tmp 35) rfl b (3 + k * 16) rfl X _ HC.out Try.underlying64 rfl (by rw [HXl.out]; kernel_rfl) ?_)
      clear HC
      obtain ⟨wk, rfl⟩ : ∃ wk : World, wk = wr := ⟨_, rfl⟩
      go_loopw [10, 12, 37] (fun u2 u3 jv wr => ∃ j : Nat, j ≤ 16 ∧ jv = .int .i64 (j : Int) ∧ Kept [] w wr ∧ ∀ i, i < 16 * k + j → ∀ t ∈ sl i, ¬ t.n = m) (fun _ _ jv _ => 16 - (intOf jv).toNat)
      case atStart => exact ⟨0, by omega, rfl, HK.out, HNO.out⟩
      case round =>
        clear HK HNO
        obtain ⟨j, hj, rfl, hK, hno⟩ := hrel
        have HK := hid hK
        have HNO := hid hno
        clear hK hno
        by_cases hj16 : j < 16
        · have hj16i : (j : Int) < 16 := by omega
          have hp : 16 * k + j < 81 := by omega
          have hO := (H.out.still HK.out).own (16 * k + j) hp
          obtain ⟨xa, xc, hv, hxc, hxm⟩ := hO.form
          unfold maxLen at hxm
          have hidx := fun w => slot_index X HXl.out j (.slice xa (sl (16 * k + j)).length xc) (by rw [HX.out, slotRow_at _ _ _ hj16, hv]) w
          rw [hv] at hO
          have hlen := HL.out _ hp
          have HP := hid hp
          have HO := hid hO
          clear hp hO hv
          go_wp2
          obtain ⟨wl, rfl⟩ : ∃ wl : World, wl = wr := ⟨_, rfl⟩
          go_loopw [12, 42] (fun u3 qv wr => ∃ q : Nat, q ≤ (sl (16 * k + j)).length ∧ qv = .int .i64 (q : Int) ∧ Kept [] wl wr ∧ ∀ x ∈ (sl (16 * k + j)).take q, ¬ x.n = m) (fun _ qv _ => (sl (16 * k + j)).length - (intOf qv).toNat)
          case atStart => exact ⟨0, by omega, rfl, Kept.refl _ _, by simp⟩
          case round =>
            obtain ⟨q, hq, rfl, hKl, hnl⟩ := hrel
            by_cases hlt : q < (sl (16 * k + j)).length
            · have ho2 := HO.out.kept hKl (not_in_nil _)
              obtain ⟨g, off, rfl, _, hcell⟩ := ho2.at (by omega : 0 < (sl (16 * k + j)).length)
              have cell3 : ∀ jj, jj < 3 → wr.cell? ⟨g, off + q * 3 + jj, none⟩ = (tmRow (sl (16 * k + j))[q])[jj]? := by
                intro jj hjj
                have hi2 : q * 3 + jj < (tms (sl (16 * k + j))).length := by rw [tms_length]; omega
                rw [show off + q * 3 + jj = off + (q * 3 + jj) by omega, hcell _ hi2, ← List.getElem?_eq_getElem hi2, tms_get (sl (16 * k + j)) q hlt jj hjj]
              have htk : (sl (16 * k + j)).take (q + 1) = (sl (16 * k + j)).take q ++ [(sl (16 * k + j))[q]] := List.take_succ_eq_append_getElem hlt
              have hmem := List.getElem_mem hlt
              obtain ⟨t, ht⟩ : ∃ t, t = (sl (16 * k + j))[q] := ⟨_, rfl⟩
              rw [← ht] at cell3 htk hmem
              have e0 := cell3 0 (by omega)
              have e1 := cell3 1 (by omega)
              have e2 := cell3 2 (by omega)
              simp only [tmRow, List.getElem?_cons_zero, List.getElem?_cons_succ, Nat.add_zero] at e0 e1 e2
              have hlti : (q : Int) < ((sl (16 * k + j)).length : Int) := by omega
              have HTK := hid htk
              have HNL := hid hnl
              have HKL := hid (hKl.trans (kept_new (w := wr) (.cells #[.int .u64 (t.due : Int), .int .i64 t.id, .int .u64 (t.n : Int)] 70)))
              have HMEM := hid hmem
              clear hKl hnl ho2 hcell cell3 htk hmem ht
              by_cases hn : t.n = m
              · have hni : ((t.n : Int) == (m : Int)) = true := by simp; omega
                have hD := HALL.out (16 * k + j) HP.out t HMEM.out hn
                have HDD := hid hD
                clear hn hD
                go_wp2
                try simp only [Exit.inBlock, Exit.then]
                refine bodyPost_ret (results_tmp2 rfl _ _ _) rfl ?_
                rw [← HDD.out]
                exact ⟨rfl, HK.out.trans HKL.out⟩
              · have hni : ((t.n : Int) == (m : Int)) = false := beq_eq_false_iff_ne.2 (by omega)
                have HN := hid hn
                clear hn
                go_wp2_with fail
                go_roundw
                case rel => exact ⟨q + 1, by omega, by go_num, HKL.out, fun x hx => by rw [HTK.out] at hx; rcases List.mem_append.1 hx with hx | hx; exact HNL.out x hx; simp at hx; subst hx; exact HN.out⟩
                case measure => simp [intOf]; omega
            · obtain rfl : q = (sl (16 * k + j)).length := by omega
              rw [List.take_length] at hnl
              have HNL := hid hnl
              have HKL := hid hKl
              clear hnl hKl
              go_wp2
              go_roundw
              case rel => exact ⟨j + 1, by omega, by go_num, HK.out.trans HKL.out, fun i hi => by by_cases e : i = 16 * k + j; subst e; exact HNL.out; exact HNO.out i (by omega)⟩
              case measure => simp [intOf]; omega
        · obtain rfl : j = 16 := by omega
          go_wp2
          go_roundw
          case rel => exact ⟨k + 1, by omega, by go_num, HK.out, fun i hi => HNO.out i (by omega)⟩
          case measure => simp [intOf]; omega
    · obtain rfl : k = 5 := by omega
      have hO := (H.out.still HK.out).own 80 (by omega)
      have hc := (H.out.still HK.out).cs 80 (by omega)
      obtain ⟨xa, xc, hv, hxc, hxm⟩ := hO.form
      unfold maxLen at hxm
      rw [hv] at hO hc
      have hlen := HL.out 80 (by omega)
      have HP := hid (by omega : 80 < 81)
      have HO := hid hO
      clear hO hv
      go_wp2
      obtain ⟨wl, rfl⟩ : ∃ wl : World, wl = wr := ⟨_, rfl⟩
      go_loopw [14, 60] (fun u3 qv wr => ∃ q : Nat, q ≤ (sl (80)).length ∧ qv = .int .i64 (q : Int) ∧ Kept [] wl wr ∧ ∀ x ∈ (sl (80)).take q, ¬ x.n = m) (fun _ qv _ => (sl (80)).length - (intOf qv).toNat)
      case atStart => exact ⟨0, by omega, rfl, Kept.refl _ _, by simp⟩
      case round =>
        obtain ⟨q, hq, rfl, hKl, hnl⟩ := hrel
        by_cases hlt : q < (sl (80)).length
        · have ho2 := HO.out.kept hKl (not_in_nil _)
          obtain ⟨g, off, rfl, _, hcell⟩ := ho2.at (by omega : 0 < (sl (80)).length)
          have cell3 : ∀ jj, jj < 3 → wr.cell? ⟨g, off + q * 3 + jj, none⟩ = (tmRow (sl (80))[q])[jj]? := by
            intro jj hjj
            have hi2 : q * 3 + jj < (tms (sl (80))).length := by rw [tms_length]; omega
            rw [show off + q * 3 + jj = off + (q * 3 + jj) by omega, hcell _ hi2, ← List.getElem?_eq_getElem hi2, tms_get (sl (80)) q hlt jj hjj]
          have htk : (sl (80)).take (q + 1) = (sl (80)).take q ++ [(sl (80))[q]] := List.take_succ_eq_append_getElem hlt
          have hmem := List.getElem_mem hlt
          obtain ⟨t, ht⟩ : ∃ t, t = (sl (80))[q] := ⟨_, rfl⟩
          rw [← ht] at cell3 htk hmem
          have e0 := cell3 0 (by omega)
          have e1 := cell3 1 (by omega)
          have e2 := cell3 2 (by omega)
          simp only [tmRow, List.getElem?_cons_zero, List.getElem?_cons_succ, Nat.add_zero] at e0 e1 e2
          have hlti : (q : Int) < ((sl (80)).length : Int) := by omega
          have HTK := hid htk
          have HNL := hid hnl
          have HKL := hid (hKl.trans (kept_new (w := wr) (.cells #[.int .u64 (t.due : Int), .int .i64 t.id, .int .u64 (t.n : Int)] 70)))
          have HMEM := hid hmem
          clear hKl hnl ho2 hcell cell3 htk hmem ht
          by_cases hn : t.n = m
          · have hni : ((t.n : Int) == (m : Int)) = true := by simp; omega
            have hD := HALL.out (80) HP.out t HMEM.out hn
            have HDD := hid hD
            clear hn hD
            go_wp2
            try simp only [Exit.inBlock, Exit.then]
            refine bodyPost_ret (results_tmp2 rfl _ _ _) rfl ?_
            rw [← HDD.out]
            exact ⟨rfl, HK.out.trans HKL.out⟩
          · have hni : ((t.n : Int) == (m : Int)) = false := beq_eq_false_iff_ne.2 (by omega)
            have HN := hid hn
            clear hn
            go_wp2_with fail
            go_roundw
            case rel => exact ⟨q + 1, by omega, by go_num, HKL.out, fun x hx => by rw [HTK.out] at hx; rcases List.mem_append.1 hx with hx | hx; exact HNL.out x hx; simp at hx; subst hx; exact HN.out⟩
            case measure => simp [intOf]; omega
        · obtain rfl : q = (sl (80)).length := by omega
          rw [List.take_length] at hnl
          have HNL := hid hnl
          have HKL := hid hKl
          clear hnl hKl
          exact (by
            obtain ⟨i, hi, t, ht, htn⟩ := HEX.out
            by_cases e : i = 80
            · subst e; exact HNL.out t ht htn
            · exact HNO.out i (by omega) t ht htn : False).elim
end Go.Proofs.Ytdnaeebehkplpaa
