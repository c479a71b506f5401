/- The wheel's 'again': timers that are armed still are laid anew. -/
import Derived.Test.YtkemkoiknoefdaaWheelArm
namespace Go.Proofs.Ytkemkoiknoefdaa
open Go.RowKit Go.Maps
set_option linter.unusedVariables false
set_option linter.unusedSimpArgs false

def lay (now : Nat) (d : Int → Nat) (sl : Nat → List Tm) (t : Tm) : Nat → List Tm := if d t.id = t.n then upd sl (place now t.due) (sl (place now t.due) ++ [t]) else sl
theorem lay_len (now : Nat) (d : Int → Nat) (sl : Nat → List Tm) (t : Tm) (i : Nat) : (lay now d sl t i).length ≤ (sl i).length + 1 := by
  unfold lay
  split
  · by_cases e : i = place now t.due
    · subst e; rw [upd_same]; simp
    · rw [upd_other _ _ e]; omega
  · omega
theorem Turned.refl (w : World) (b mb : Nat) (vs : Nat → Value) : Turned w b mb vs w vs := ⟨[], Kept.refl _ _, by simp, fun k hk => .inl hk⟩
theorem Turned.size {w w' : World} {b mb : Nat} {vs vs' : Nat → Value} (h : Turned w b mb vs w' vs') : w.heap.size ≤ w'.heap.size := by obtain ⟨S, h1, _⟩ := h; exact h1.size
theorem Turned.trans {w w1 w2 : World} {b mb : Nat} {vs vs1 vs2 : Nat → Value} (h : Turned w b mb vs w1 vs1) (g : Turned w1 b mb vs1 w2 vs2) : Turned w b mb vs w2 vs2 := by
  have hs := h.size
  obtain ⟨S, h1, h2, h3⟩ := h
  obtain ⟨S', g1, g2, g3⟩ := g
  refine ⟨S ++ S', (h1.mono (by simp; intro a ha; exact .inl ha)).trans (g1.mono (by simp; intro a ha; exact .inr ha)), fun k hm => ?_, fun k hm => ?_⟩
  · rcases List.mem_append.1 hm with hm | hm
    · exact h2 k hm
    · rcases g2 k hm with h4 | h4
      · exact h3 k h4
      · exact .inr (by omega)
  · rcases g3 k hm with h4 | h4
    · exact h3 k h4
    · exact .inr (by omega)
theorem Turned.still {w w1 w2 : World} {b mb : Nat} {vs vs1 : Nat → Value} (h : Turned w b mb vs w1 vs1) (hk : Kept [] w1 w2) : Turned w b mb vs w2 vs1 := h.trans ⟨[], hk, by simp, fun k hk => .inl hk⟩
/-- What is none of the wheel's, and was there, stands. -/
theorem Turned.own {w w' : World} {b mb : Nat} {vs vs' : Nat → Value} (h : Turned w b mb vs w' vs') {base : Nat} {E : TypeId} {sz : Nat} {v : Value} {n : Nat} {xs : List Value} (ho : Own base E sz w v n xs) (hn : ∀ k, v.ownBlock = some k → ¬ Wh.In b mb vs k) : Own base E sz w' v n xs := by
  obtain ⟨S, h1, h2, h3⟩ := h
  exact ho.kept h1 (fun k hk hm => by
    have := (ho.lt k hk).2
    rcases h2 k hm with h4 | h4
    · exact hn k hk h4
    · omega)
def AgainPost (w : World) (b mb now n cnt : Nat) (d : Int → Nat) (sz : Nat) (vs : Nat → Value) (sl : Nat → List Tm) (l : List Tm) (e : Ending) (w' : World) : Prop :=
  (∃ v, e = .returned v) ∧ ∃ vs', Wh w' b mb now n cnt d sz vs' (l.foldl (lay now d) sl) ∧ Turned w b mb vs w' vs'
set_option maxRecDepth 100000 in
set_option maxHeartbeats 2000000 in
theorem again_any {w : World} {b mb now n cnt sz : Nat} {d : Int → Nat} {vs : Nat → Value} {sl : Nat → List Tm} (h : Wh w b mb now n cnt d sz vs sl) (hn : now ≤ 1152921504606846976) (v : Value) (l : List Tm) (ho : Own 0 61 3 w v l.length (tms l)) (hv : ∀ k, v.ownBlock = some k → ¬ Wh.In b mb vs k)
    (hw : ∀ t ∈ l, (Lit.int .i64 t.id).wf = true ∧ t.due ≤ 2305843009213693952) (hl : ∀ i, i < 81 → (sl i).length + l.length ≤ 100000000) :
    Calls Try.prog 25 #[.pointer (some ⟨b, 0, none⟩), v] w (AgainPost w b mb now n cnt d sz vs sl l) := by
  obtain ⟨a, cap, rfl, hcap, hmax⟩ := ho.form
  unfold maxLen at hmax
  have H := hid h
  have HO := hid ho
  have HV := hid hv
  have HW := hid hw
  have HL := hid hl
  clear h ho hv hw hl
  go_enter Try.func25, Try.ntmps25
  go_wp2
  go_loopw [5, 8] (fun u iv wr => ∃ i : Nat, i ≤ l.length ∧ iv = .int .i64 (i : Int) ∧ ∃ vs', Wh wr b mb now n cnt d sz vs' ((l.take i).foldl (lay now d) sl) ∧ Turned w b mb vs wr vs' ∧ ∀ j, j < 81 → ((l.take i).foldl (lay now d) sl j).length ≤ (sl j).length + i) (fun u iv _ => l.length - (intOf iv).toNat)
  case atStart => exact ⟨0, by omega, rfl, vs, H.out, Turned.refl _ _ _ _, fun j hj => by simp⟩
  case round =>
    obtain ⟨i, hi, rfl, vs', hWh, hT, hlen⟩ := hrel
    by_cases hlt : i < l.length
    · have ho2 := hT.own HO.out HV.out
      obtain ⟨g, off, rfl, _, hcell⟩ := ho2.at (by omega : 0 < l.length)
      have cell3 : ∀ jj, jj < 3 → wr.cell? ⟨g, off + i * 3 + jj, none⟩ = (tmRow l[i])[jj]? := by
        intro jj hjj
        have hi2 : i * 3 + jj < (tms l).length := by rw [tms_length]; omega
        rw [show off + i * 3 + jj = off + (i * 3 + jj) by omega, hcell _ hi2, ← List.getElem?_eq_getElem hi2, tms_get l i hlt jj hjj]
      obtain ⟨hwf, hdue⟩ := HW.out _ (List.getElem_mem hlt)
      have htake : l.take (i + 1) = l.take i ++ [l[i]] := List.take_succ_eq_append_getElem hlt
      generalize l[i] = t at *
      have e0 := cell3 0 (by omega)
      have e1 := cell3 1 (by omega)
      have e2 := cell3 2 (by omega)
      simp only [tmRow, List.getElem?_cons_zero, List.getElem?_cons_succ, Nat.add_zero] at e0 e1 e2
      have hal := kept_new (w := wr) (.cells #[.int .u64 (t.due : Int), .int .i64 t.id, .int .u64 (t.n : Int)] 61)
      have h1 := hWh.still hal
      have c2 := h1.c2
      have hlook := fun m => (h1.still (Kept.drewN [] _ m)).map.look hwf
      have H1 := hid h1
      have HT1 := hid (hT.still hal)
      have HLN := hid hlen
      have HTK := hid htake
      have hlti : (i : Int) < (l.length : Int) := by omega
      clear hWh hT hlen htake h1 hal ho2 hcell cell3
      have HLK := hid (fun j hj => by have := HLN.out j hj; have := HL.out j hj; omega : ∀ j, j < 81 → ((l.take i).foldl (lay now d) sl j).length ≤ 100000000)
      have hfold : (l.take (i + 1)).foldl (lay now d) sl = lay now d ((l.take i).foldl (lay now d) sl) t := by rw [HTK.out, List.foldl_append]; rfl
      have HFO := hid hfold
      have HLN2 := hid (fun j hj => by rw [hfold]; have := lay_len now d ((l.take i).foldl (lay now d) sl) t j; have := HLN.out j hj; omega : ∀ j, j < 81 → ((l.take (i + 1)).foldl (lay now d) sl j).length ≤ (sl j).length + (i + 1))
      clear hfold
      by_cases hd : d t.id = t.n
      · have hdi : ((d t.id : Int) == (t.n : Int)) = true := by simp; omega
        have HD := hid hd
        clear hd
        go_wp2
        go_quiet (fail)
        go_wp2_with fail
        refine (put_any (H1.out.still (Kept.drewN [] _ nq)) t hdue hn HLK.out).mono ?_
        rintro e w5 ⟨⟨v5, rfl⟩, vs5, h5, ht5⟩
        have HF := hid (by rw [HFO.out]; unfold lay; rw [if_pos HD.out]; exact h5 : Wh w5 b mb now n cnt d sz vs5 ((l.take (i + 1)).foldl (lay now d) sl))
        have HT5 := hid ((HT1.out.still (Kept.drewN [] _ nq)).trans ht5)
        clear h5 ht5
        go_wp2_with fail
        go_roundw
        case rel => exact ⟨i + 1, by omega, by go_num, vs5, HF.out, HT5.out, HLN2.out⟩
        case measure => simp [intOf]; omega
      · have hdi : ((d t.id : Int) == (t.n : Int)) = false := beq_eq_false_iff_ne.2 (by omega)
        have HD := hid hd
        clear hd
        go_wp2
        go_quiet (fail)
        go_wp2_with fail
        go_roundw
        case rel => exact ⟨i + 1, by omega, by go_num, vs', by rw [HFO.out]; unfold lay; rw [if_neg HD.out]; exact H1.out.still (Kept.drewN [] _ nq), HT1.out.still (Kept.drewN [] _ nq), HLN2.out⟩
        case measure => simp [intOf]; omega
    · obtain rfl : i = l.length := by omega
      rw [List.take_length] at hWh
      have HF := hid hWh
      have HT1 := hid hT
      clear hWh hT hlen
      go_wp2
      go_end0
      exact ⟨⟨_, rfl⟩, vs', HF.out, HT1.out⟩
end Go.Proofs.Ytkemkoiknoefdaa
