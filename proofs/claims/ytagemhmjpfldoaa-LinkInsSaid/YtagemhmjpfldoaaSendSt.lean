/- The contracts of the sender's functions at element type string. -/
import Derived.Test.YtagemhmjpfldoaaRingSt
import Derived.Deep.RegionWith
import Derived.Deep.LoopGhost
namespace Go.Proofs.Ytagemhmjpfldoaa
namespace SSt
open Go.RowKit
set_option linter.unusedVariables false
set_option linter.unusedSimpArgs false

/-- At block c lies a sender over the ring at b: a window, so many acked, l waits. -/
structure Send (w : World) (c b bs m win acked : Nat) (l : List Value) : Prop where
  blk : w.heap[c]? = some (.cells #[.pointer (some ⟨b, 0, none⟩), .int .i64 (win : Int), .int .u64 (acked : Int)] 96 (0, 0))
  ring : Ring 9 108 w b bs m l
  n1 : c ≠ b
  n2 : c ≠ bs
  hw : 1 ≤ win ∧ win ≤ 32
theorem Send.kept {S : List Nat} {w w' : World} {c b bs m win acked : Nat} {l : List Value} (h : Send w c b bs m win acked l) (hk : Kept S w w') (h0 : c ∉ S) (h1 : b ∉ S) (h2 : bs ∉ S) : Send w' c b bs m win acked l :=
  ⟨hk.blk h.blk h0, h.ring.kept hk h1 h2, h.n1, h.n2, h.hw⟩
theorem Send.sim {w w' : World} {c b bs m win acked : Nat} {l : List Value} (h : Send w c b bs m win acked l) (hs : Sim w w') : Send w' c b bs m win acked l :=
  h.kept (hs.kept (Kept.refl [] w)) (by simp) (by simp) (by simp)
theorem Send.lt {w : World} {c b bs m win acked : Nat} {l : List Value} (h : Send w c b bs m win acked l) : c < w.heap.size ∧ b < w.heap.size ∧ bs < w.heap.size :=
  ⟨lt_of_blk h.blk, h.ring.lt⟩
theorem Send.c0 {w : World} {c b bs m win acked : Nat} {l : List Value} (h : Send w c b bs m win acked l) : w.cell? ⟨c, 0, none⟩ = some (.pointer (some ⟨b, 0, none⟩)) := by rw [cell_of h.blk]; rfl
theorem Send.c1 {w : World} {c b bs m win acked : Nat} {l : List Value} (h : Send w c b bs m win acked l) : w.cell? ⟨c, 0 + 1, none⟩ = some (.int .i64 (win : Int)) := by rw [cell_of h.blk]; rfl
theorem Send.c2 {w : World} {c b bs m win acked : Nat} {l : List Value} (h : Send w c b bs m win acked l) : w.cell? ⟨c, 0 + 2, none⟩ = some (.int .u64 (acked : Int)) := by rw [cell_of h.blk]; rfl

def NewPost (w : World) (m win : Nat) (e : Ending) (w' : World) : Prop := ∃ c b bs, e = .returned (.tuple #[.pointer (some ⟨c, 0, none⟩), .int .i64 0]) ∧ Send w' c b bs m win 0 [] ∧ Kept [] w w' ∧ w.heap.size ≤ c ∧ w.heap.size ≤ b ∧ w.heap.size ≤ bs
set_option maxHeartbeats 400000 in
theorem new_any (k v : Int) (m win : Nat) (hk : k = (m : Int)) (hv : v = (win : Int)) (w : World) (h1 : 1 ≤ m) (h2 : m ≤ 256) (h3 : 1 ≤ win) (h4 : win ≤ 32) :
    Calls Try.prog 43 #[.int .i64 k, .int .i64 v] w (NewPost w m win) := by
  subst hk
  subst hv
  have h3' : ¬ (win : Int) < 1 := by omega
  have h4' : ¬ (32 : Int) < (win : Int) := by omega
  go_enter Try.func43, Try.ntmps43
  go_wp2_with fail
  refine (RSt.new_any _ m rfl w h1 h2).mono ?_
  rintro e w1 ⟨b, bs, rfl, hR, hK, hb, hbs⟩
  have hlt := hR.lt
  have HR := hid hR
  clear hR
  go_wp2
  go_ret2
  have hal : Kept [] w1 (w1.alloc (.cells #[.pointer (some ⟨b, 0, none⟩), .int .i64 (win : Int), .int .u64 0] 96)) := (Kept.refl _ _).alloc _
  exact ⟨w1.heap.size, b, bs, rfl, ⟨blk_alloc_new _ _, HR.out.kept hal (by simp) (by simp), by omega, by omega, h3, h4⟩, hK.trans hal, hK.size, hb, hbs⟩
set_option maxHeartbeats 400000 in
theorem new_bad (k v : Int) (w : World) (h : k < 1 ∨ 256 < k) :
    Calls Try.prog 43 #[.int .i64 k, .int .i64 v] w fun e w' => e = .returned (.tuple #[.pointer none, .int .i64 1]) ∧ w = w' := by
  have H := hid h
  clear h
  go_enter Try.func43, Try.ntmps43
  go_wp2_with fail
  refine (RSt.new_bad k w H.out).mono ?_
  rintro e w1 ⟨rfl, rfl⟩
  go_wp2
  go_ret2
  exact ⟨rfl, rfl⟩
set_option maxHeartbeats 400000 in
theorem new_badw (k v : Int) (m : Nat) (hk : k = (m : Int)) (w : World) (h1 : 1 ≤ m) (h2 : m ≤ 256) (h : v < 1 ∨ 32 < v) :
    Calls Try.prog 43 #[.int .i64 k, .int .i64 v] w fun e w' => e = .returned (.tuple #[.pointer none, .int .i64 1]) ∧ Kept [] w w' := by
  subst hk
  go_enter Try.func43, Try.ntmps43
  go_wp2_with fail
  refine (RSt.new_any _ m rfl w h1 h2).mono ?_
  rintro e w1 ⟨b, bs, rfl, hR, hK, hb, hbs⟩
  clear hR hb hbs
  rcases h with h | h
  · go_wp2
    go_ret2
    exact ⟨rfl, hK⟩
  · have h' : ¬ v < 1 := by omega
    go_wp2
    go_ret2
    exact ⟨rfl, hK⟩
theorem put_ok {w : World} {c b bs m win acked : Nat} {l : List Value} (h : Send w c b bs m win acked l) (hl : l.length < m) (s : ByteArray) :
    Calls Try.prog 45 #[.pointer (some ⟨c, 0, none⟩), .string s] w fun e w' => e = .returned (.int .i64 0) ∧ Send w' c b bs m win acked (l ++ [.string s]) ∧ Kept [b, bs] w w' := by
  have h0 := h.c0
  have H := hid h
  clear h
  go_enter Try.func45, Try.ntmps45
  go_wp2_with fail
  refine (RSt.put_ok H.out.ring hl s).mono ?_
  rintro e w1 ⟨rfl, hR, hK⟩
  have hR := hid hR
  go_wp2
  go_ret
  have hn1 := H.out.n1
  have hn2 := H.out.n2
  exact ⟨rfl, ⟨hK.blk H.out.blk (by simp [hn1, hn2]), hR.out, hn1, hn2, H.out.hw⟩, hK⟩
theorem put_busy {w : World} {c b bs m win acked : Nat} {l : List Value} (h : Send w c b bs m win acked l) (hl : l.length = m) (s : ByteArray) :
    Calls Try.prog 45 #[.pointer (some ⟨c, 0, none⟩), .string s] w fun e w' => e = .returned (.int .i64 7) ∧ ∃ k, w' = w.drewN k := by
  have h0 := h.c0
  have H := hid h
  have HL := hid hl
  clear h hl
  go_enter Try.func45, Try.ntmps45
  go_wp2_with fail
  refine (RSt.put_busy H.out.ring HL.out s).mono ?_
  rintro e w1 ⟨rfl, k, rfl⟩
  go_wp2
  go_ret
  exact ⟨rfl, _, rfl⟩
theorem put_nil (s : ByteArray) (w : World) :
    Calls Try.prog 45 #[.pointer none, .string s] w fun e w' => e = .returned (.int .i64 6) ∧ w = w' := by
  go_enter Try.func45, Try.ntmps45
  go_wp2
  go_ret
  exact ⟨rfl, rfl⟩
theorem len_any {w : World} {c b bs m win acked : Nat} {l : List Value} (h : Send w c b bs m win acked l) :
    Calls Try.prog 39 #[.pointer (some ⟨c, 0, none⟩)] w fun e w' => e = .returned (.int .i64 (l.length : Int)) ∧ w = w' := by
  have h0 := h.c0
  have HR := hid h.ring
  clear h
  go_enter Try.func39, Try.ntmps39
  go_wp2_with fail
  refine (RSt.len_any HR.out).mono ?_
  rintro e w1 ⟨rfl, rfl⟩
  go_wp2
  go_ret
  exact ⟨rfl, rfl⟩
theorem len_nil (w : World) :
    Calls Try.prog 39 #[.pointer none] w fun e w' => e = .returned (.int .i64 0) ∧ w = w' := by
  go_enter Try.func39, Try.ntmps39
  go_wp2
  go_ret
  exact ⟨rfl, rfl⟩
theorem room_any {w : World} {c b bs m win acked : Nat} {l : List Value} (h : Send w c b bs m win acked l) :
    Calls Try.prog 46 #[.pointer (some ⟨c, 0, none⟩)] w fun e w' => e = .returned (.int .i64 ((m : Int) - (l.length : Int))) ∧ ∃ k, w' = w.drewN k := by
  have h0 := h.c0
  have HR := hid h.ring
  clear h
  go_enter Try.func46, Try.ntmps46
  go_wp2_with fail
  refine (RSt.room_any HR.out).mono ?_
  rintro e w1 ⟨rfl, k, rfl⟩
  go_wp2
  go_ret
  exact ⟨rfl, _, rfl⟩
theorem room_nil (w : World) :
    Calls Try.prog 46 #[.pointer none] w fun e w' => e = .returned (.int .i64 0) ∧ w = w' := by
  go_enter Try.func46, Try.ntmps46
  go_wp2
  go_ret
  exact ⟨rfl, rfl⟩
theorem acked_any {w : World} {c b bs m win acked : Nat} {l : List Value} (h : Send w c b bs m win acked l) :
    Calls Try.prog 47 #[.pointer (some ⟨c, 0, none⟩)] w fun e w' => e = .returned (.int .u64 (acked : Int)) ∧ w = w' := by
  have h2 := h.c2
  clear h
  go_enter Try.func47, Try.ntmps47
  go_wp2
  go_ret
  exact ⟨rfl, rfl⟩
theorem acked_nil (w : World) :
    Calls Try.prog 47 #[.pointer none] w fun e w' => e = .returned (.int .u64 0) ∧ w = w' := by
  go_enter Try.func47, Try.ntmps47
  go_wp2
  go_ret
  exact ⟨rfl, rfl⟩
def WindowPost (w : World) (acked win : Nat) (l : List Value) (e : Ending) (w' : World) : Prop :=
  ∃ v, e = .returned (.tuple #[.int .u64 (acked : Int), v]) ∧ OwnL w.heap.size 9 w' v (l.take win) ∧ Kept [] w w'
set_option maxHeartbeats 1000000 in
theorem window_any {w : World} {c b bs m win acked : Nat} {l : List Value} (h : Send w c b bs m win acked l) (ho : ∀ x ∈ l, ∃ s : ByteArray, x = .string s) :
    Calls Try.prog 33 #[.pointer (some ⟨c, 0, none⟩)] w (WindowPost w acked win l) := by
  have h0 := h.c0
  have h1 := h.c1
  have h2 := h.c2
  have HH := hid h
  have HO := hid ho
  clear h ho
  go_enter Try.func33, Try.ntmps33
  go_wp2
  go_region_with (go_at_call 55; refine (RSt.first_any (win : Int) _ (by exact HH.out.ring.sim ⟨rfl, rfl, rfl, rfl⟩) HO.out).mono ?_; rintro e w5 ⟨v5, rfl, hO5, hK5⟩; have h2' := (HH.out.kept (S := []) (w' := w5) ⟨hK5.os, hK5.tape, hK5.output, hK5.size, hK5.block⟩ (by simp) (by simp) (by simp)).c2)
  all_goals
    go_wp2
    go_ret2
    exact ⟨v5, rfl, by simpa using hO5, ⟨hK5.os, hK5.tape, hK5.output, hK5.size, hK5.block⟩⟩
theorem window_nil (w : World) :
    Calls Try.prog 33 #[.pointer none] w fun e w' => e = .returned (.tuple #[.int .u64 0, .slice none 0 0]) ∧ w = w' := by
  go_enter Try.func33, Try.ntmps33
  go_wp2
  go_ret2
  exact ⟨rfl, rfl⟩
theorem ack_nil (n : Int) (w : World) :
    Calls Try.prog 35 #[.pointer none, .int .u64 n] w fun e w' => e = .returned (.int .i64 6) ∧ w = w' := by
  go_enter Try.func35, Try.ntmps35
  go_wp2
  go_ret
  exact ⟨rfl, rfl⟩
theorem ack_stale {w : World} {c b bs m win acked : Nat} {l : List Value} (h : Send w c b bs m win acked l) (n : Int) (hn : n < (acked : Int)) :
    Calls Try.prog 35 #[.pointer (some ⟨c, 0, none⟩), .int .u64 n] w fun e w' => e = .returned (.int .i64 9) ∧ w = w' := by
  have h2 := h.c2
  clear h
  go_enter Try.func35, Try.ntmps35
  go_wp2
  go_ret
  exact ⟨rfl, rfl⟩
theorem len_quiet {w w' : World} {b bs m : Nat} {l : List Value} (h : Ring 9 108 w b bs m l) (hw : w'.heap = w.heap) :
    Calls Try.prog 56 #[.pointer (some ⟨b, 0, none⟩)] w' fun e w'' => e = .returned (.int .i64 (l.length : Int)) ∧ w'' = w' := by
  refine (RSt.len_any (E := 9) (T := 108) (bs := bs) (m := m) (l := l) (by unfold Ring at *; rw [hw]; exact h)).mono ?_
  rintro e w1 ⟨h1, h2⟩
  exact ⟨h1, h2.symm⟩
set_option maxHeartbeats 400000 in
theorem ack_out {w : World} {c b bs m win acked : Nat} {l : List Value} (h : Send w c b bs m win acked l) (n : Int) (hn : (acked : Int) ≤ n) (hb : n ≤ 18446744073709551615) (ho : (min l.length win : Nat) < n - (acked : Int)) :
    Calls Try.prog 35 #[.pointer (some ⟨c, 0, none⟩), .int .u64 n] w fun e w' => e = .returned (.int .i64 1) ∧ ∃ k, w' = w.drewN k := by
  have h0 := h.c0
  have h1 := h.c1
  have h2 := h.c2
  have hw := h.hw
  have hle := h.ring.le
  have HH := hid h
  clear h
  have hlq : ∀ k, Calls Try.prog 56 #[.pointer (some ⟨b, 0, none⟩)] (w.drewN k) fun e w'' => e = .returned (.int .i64 (l.length : Int)) ∧ w'' = w.drewN k := fun k => len_quiet HH.out.ring rfl
  generalize l.length = ln at *
  have HQ := hid hlq
  clear hlq
  by_cases hwl : win < ln
  · have hn1 : (win : Int) < n - (acked : Int) := by omega
    go_enter Try.func35, Try.ntmps35
    go_wp2
    go_quiet ((go_at_call 56; exact Calls.quiet_of_same (HQ.out _)))
    go_wp2
    go_ret
    exact ⟨rfl, _, rfl⟩
  · have hn1 : (ln : Int) < n - (acked : Int) := by omega
    go_enter Try.func35, Try.ntmps35
    go_wp2
    go_quiet ((go_at_call 56; exact Calls.quiet_of_same (HQ.out _)))
    go_wp2
    go_ret
    exact ⟨rfl, _, rfl⟩

set_option maxHeartbeats 1000000 in
theorem ack_ok {w : World} {c b bs m win acked : Nat} {l : List Value} (h : Send w c b bs m win acked l) (n : Int) (d : Nat) (hn : n = (acked : Int) + (d : Int)) (hb : acked ≤ 4611686018427387904) (hd : d ≤ min l.length win) (hone : ∀ x ∈ l, ∃ s : ByteArray, x = .string s) :
    Calls Try.prog 35 #[.pointer (some ⟨c, 0, none⟩), .int .u64 n] w fun e w' => e = .returned (.int .i64 0) ∧ Send w' c b bs m win (acked + d) (l.drop d) ∧ Kept [c, b, bs] w w' := by
  subst hn
  have h0 := h.c0
  have h1 := h.c1
  have h2 := h.c2
  have hw := h.hw
  have hle := h.ring.le
  have hn1 := h.n1
  have hn2 := h.n2
  have hn3 : b ≠ bs := by obtain ⟨_, _, _, _, h3, _⟩ := h.ring; exact h3
  have hdl : d ≤ l.length := by omega
  have hdw : d ≤ win := by omega
  have HH := hid h
  have HO := hid hone
  clear h hone
  have hlq : ∀ k, Calls Try.prog 56 #[.pointer (some ⟨b, 0, none⟩)] (w.drewN k) fun e w'' => e = .returned (.int .i64 (l.length : Int)) ∧ w'' = w.drewN k := fun k => len_quiet HH.out.ring rfl
  obtain ⟨ln, hln⟩ : ∃ ln, ln = l.length := ⟨_, rfl⟩
  rw [← hln] at hlq hle hdl hd
  have HQ := hid hlq
  have HLN := hid hln
  clear hlq hln
  have ea : (acked : Int) + (d : Int) - (acked : Int) = (d : Int) := by omega
  have hx1 : ¬ (acked : Int) + (d : Int) < (acked : Int) := by omega
  have hx2 : ¬ ln < d := by omega
  have hx3 : ¬ win < d := by omega
  have hdz : ∃ t : Nat, t = d := ⟨d, rfl⟩
  by_cases hwl : win < ln
  all_goals
    go_enter Try.func35, Try.ntmps35
    go_wp2
    go_quiet ((go_at_call 56; exact Calls.quiet_of_same (HQ.out _)))
    go_wp2
    clear h0 h1 h2
    go_loopg [34] d (fun gk _ wr => ∃ j : Nat, j + gk = d ∧ Send wr c b bs m win (acked + j) (l.drop j) ∧ Kept [c, b, bs] w wr)
    case atStart => exact ⟨0, by omega, by rw [Nat.add_zero, List.drop_zero]; exact HH.out.sim ⟨rfl, rfl, rfl, rfl⟩, (Kept.refl _ _).drewN' _⟩
    case round =>
      obtain ⟨j, hj, hS, hK⟩ := hrel
      have c0 := hS.c0
      have c2 := hS.c2
      by_cases hjd : j < d
      · have hjd' : (acked : Int) + (j : Int) < (acked : Int) + (d : Int) := by omega
        have hjl : j < l.length := by have := HLN.out; omega
        have hdr : l.drop j = l[j] :: l.drop (j + 1) := List.drop_eq_getElem_cons hjl
        have hoc : l[j].oneCell' = true := by
          obtain ⟨s, hx⟩ := HO.out (l[j]) (List.getElem_mem hjl)
          rw [hx]; rfl
        have hR := hS.ring
        have hblk := hS.blk
        rw [hdr] at hR
        have HR := hid hR
        have HOC := hid hoc
        clear hR hdr hoc hS
        go_wp2_with fail
        refine (RSt.take_ok HR.out HOC.out).mono ?_
        rintro e w3 ⟨rfl, hR3, hK3⟩
        have hb3 := hK3.blk hblk (by simp [hn1, hn2])
        have c3 : w3.cell? ⟨c, 0 + 2, none⟩ = some (.int .u64 ((acked + j : Nat) : Int)) := by rw [cell_of hb3]; rfl
        have f3 : w3.frozen? ⟨c, 0 + 2, none⟩ = false := frozen_of hb3
        have hk : Kept [c] w3 (w3.setCell ⟨c, 2, none⟩ (.int .u64 ((acked : Int) + (j : Int) + 1))) := (Kept.refl _ _).setCell (by simp) _
        have hS4 : Send (w3.setCell ⟨c, 2, none⟩ (.int .u64 ((acked : Int) + (j : Int) + 1))) c b bs m win (acked + (j + 1)) (l.drop (j + 1)) := by
          refine ⟨?_, hR3.kept hk (by simp; omega) (by simp; omega), hn1, hn2, hw⟩
          have := blk_set (o := 2) hb3 (.int .u64 ((acked : Int) + (j : Int) + 1))
          rw [this]
          simp
          omega
        have hK4 : Kept [c, b, bs] w (w3.setCell ⟨c, 2, none⟩ (.int .u64 ((acked : Int) + (j : Int) + 1))) := (hK.trans (hK3.mono (S' := [c, b, bs]) (fun q hq => by simp at hq ⊢; rcases hq with h | h <;> simp [h]))).trans (hk.mono (by simp))
        have HS4 := hid hS4
        have HK4 := hid hK4
        clear hS4 hK4 hk hR3 hK3 hK hblk hb3 c0 c2
        go_wp2
        go_roundg (gk - 1)
        case measure => omega
        case rel => exact ⟨j + 1, by omega, HS4.out, HK4.out⟩
      · obtain rfl : j = d := by omega
        have HS := hid hS
        clear hS
        go_wp2
        go_ret
        exact ⟨rfl, HS.out, hK⟩
end SSt
end Go.Proofs.Ytagemhmjpfldoaa
