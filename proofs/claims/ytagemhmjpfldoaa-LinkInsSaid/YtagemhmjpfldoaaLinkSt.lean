/- link.Link[string, int]: contracts. -/
import Derived.Test.YtagemhmjpfldoaaSendSt
import Derived.Test.YtagemhmjpfldoaaRecvIn
import Derived.Test.YtagemhmjpfldoaaEnds
import Derived.Test.YtagemhmjpfldoaaEpoch
import Derived.Laws.Tables
import Derived.Laws.Rows
namespace Go.Proofs.Ytagemhmjpfldoaa
namespace LSt
open Go.RowKit
set_option linter.unusedVariables false
set_option linter.unusedSimpArgs false

/-- At block E.k lies an end: lo waits to be sent, acked of all that was put are known to have come; next have come here, li waits. -/
structure Link (w : World) (E : Ends) (m win acked : Nat) (lo : List Value) (next : Nat) (li : List Value) : Prop where
  blk : w.heap[E.k]? = some (.cells #[.int .u64 E.N, .int .i64 E.P, .pointer (some ⟨E.s, 0, none⟩), .pointer (some ⟨E.r, 0, none⟩)] 76 (0, 0))
  out : SSt.Send w E.s E.sb E.ss m win acked lo
  inn : CIn.Recv w E.r E.rb E.rs m next li
  nd : E.Apart
  os : ∀ x ∈ lo, ∃ s : ByteArray, x = .string s
  is : ∀ x ∈ li, ∃ s : Int, x = .int .i64 s
theorem Link.kept {S : List Nat} {w w' : World} {E : Ends} {m win acked next : Nat} {lo li : List Value} (h : Link w E m win acked lo next li) (hk : Kept S w w') (hS : ∀ x ∈ E.all, x ∉ S) : Link w' E m win acked lo next li :=
  ⟨hk.blk h.blk (hS _ E.mkk), h.out.kept hk (hS _ E.ms) (hS _ E.msb) (hS _ E.mss), h.inn.kept hk (hS _ E.mr) (hS _ E.mrb) (hS _ E.mrs), h.nd, h.os, h.is⟩
theorem Link.still {w w' : World} {E : Ends} {m win acked next : Nat} {lo li : List Value} (h : Link w E m win acked lo next li) (hk : Kept [] w w') : Link w' E m win acked lo next li := h.kept hk (by simp)
theorem Link.sim {w w' : World} {E : Ends} {m win acked next : Nat} {lo li : List Value} (h : Link w E m win acked lo next li) (hs : Sim w w') : Link w' E m win acked lo next li := h.still (hs.kept (Kept.refl [] w))
theorem Link.lt {w : World} {E : Ends} {m win acked next : Nat} {lo li : List Value} (h : Link w E m win acked lo next li) : ∀ x ∈ E.all, x < w.heap.size := by
  intro x hx
  have h1 := h.out.lt
  have h2 := h.inn.lt
  have h3 := lt_of_blk h.blk
  simp [Ends.all] at hx
  omega
theorem Link.c2 {w : World} {E : Ends} {m win acked next : Nat} {lo li : List Value} (h : Link w E m win acked lo next li) : w.cell? ⟨E.k, 0 + 2, none⟩ = some (.pointer (some ⟨E.s, 0, none⟩)) := by rw [cell_of h.blk]; rfl
theorem Link.c3 {w : World} {E : Ends} {m win acked next : Nat} {lo li : List Value} (h : Link w E m win acked lo next li) : w.cell? ⟨E.k, 0 + 3, none⟩ = some (.pointer (some ⟨E.r, 0, none⟩)) := by rw [cell_of h.blk]; rfl
theorem Link.c0 {w : World} {E : Ends} {m win acked next : Nat} {lo li : List Value} (h : Link w E m win acked lo next li) : w.cell? ⟨E.k, 0, none⟩ = some (.int .u64 E.N) := by rw [cell_of h.blk]; rfl
theorem Link.c1 {w : World} {E : Ends} {m win acked next : Nat} {lo li : List Value} (h : Link w E m win acked lo next li) : w.cell? ⟨E.k, 1, none⟩ = some (.int .i64 E.P) := by rw [cell_of h.blk]; rfl
/-- What the sender's side did. -/
theorem Link.sent {w w' : World} {E : Ends} {m win acked next acked' : Nat} {lo li lo' : List Value} {S : List Nat} (h : Link w E m win acked lo next li) (ho : SSt.Send w' E.s E.sb E.ss m win acked' lo') (hk : Kept S w w') (hS : ∀ x ∈ S, x ∈ E.so) (hos : ∀ x ∈ lo', ∃ s : ByteArray, x = .string s) : Link w' E m win acked' lo' next li :=
  ⟨hk.blk h.blk (fun hh => h.nd.ks (hS _ hh)), ho, h.inn.kept hk (fun hh => h.nd.rs _ E.ro'.1 (hS _ hh)) (fun hh => h.nd.rs _ E.ro'.2.1 (hS _ hh)) (fun hh => h.nd.rs _ E.ro'.2.2 (hS _ hh)), h.nd, hos, h.is⟩
/-- What the receiver's side did. -/
theorem Link.came {w w' : World} {E : Ends} {m win acked next next' : Nat} {lo li li' : List Value} {S : List Nat} (h : Link w E m win acked lo next li) (ho : CIn.Recv w' E.r E.rb E.rs m next' li') (hk : Kept S w w') (hS : ∀ x ∈ S, x ∈ E.ro) (his : ∀ x ∈ li', ∃ s : Int, x = .int .i64 s) : Link w' E m win acked lo next' li' :=
  ⟨hk.blk h.blk (fun hh => h.nd.kr (hS _ hh)), h.out.kept hk (fun hh => h.nd.sr _ E.so'.1 (hS _ hh)) (fun hh => h.nd.sr _ E.so'.2.1 (hS _ hh)) (fun hh => h.nd.sr _ E.so'.2.2 (hS _ hh)), ho, h.nd, h.os, his⟩

def NewPost (w : World) (N P : Int) (m win : Nat) (e : Ending) (w' : World) : Prop :=
  ∃ E : Ends, E.N = N ∧ E.P = P ∧ e = .returned (.tuple #[.pointer (some ⟨E.k, 0, none⟩), .int .i64 0]) ∧ Link w' E m win 0 [] 0 [] ∧ Kept [] w w' ∧ ∀ x ∈ E.all, w.heap.size ≤ x
set_option maxHeartbeats 1000000 in
theorem new_any (N P k v : Int) (m win : Nat) (hk : k = (m : Int)) (hv : v = (win : Int)) (w : World) (h1 : 1 ≤ m) (h2 : m ≤ 256) (h3 : 1 ≤ win) (h4 : win ≤ 32) :
    Calls Try.prog 23 #[.agg #[.int .u64 N, .int .i64 P], .int .i64 k, .int .i64 v] w (NewPost w N P m win) := by
  subst hk
  subst hv
  go_enter Try.func23, Try.ntmps23
  go_wp2_with fail
  refine (SSt.new_any _ _ m win rfl rfl _ h1 h2 h3 h4).mono ?_
  rintro e w1 ⟨c, b, bs, rfl, hS, hK1, hc, hb, hbs⟩
  have hb1 := hK1.blk (blk_alloc_new w _) (by simp)
  have hsc := hS.lt
  have hcA : w1.cell? ⟨w.heap.size, 0, none⟩ = some (.int .u64 N) := by rw [cell_of hb1]; rfl
  have hcB : w1.cell? ⟨w.heap.size, 1, none⟩ = some (.int .i64 P) := by rw [cell_of hb1]; rfl
  have HS := hid hS
  clear hS
  go_wp2_with fail
  refine (CIn.new_any _ m rfl w1 h1 h2).mono ?_
  rintro e w2 ⟨r, rb, rs, rfl, hR, hK2, hr, hrb, hrs⟩
  have hb2 := hK2.blk hb1 (by simp)
  have hsr := hR.lt
  have hcA : w2.cell? ⟨w.heap.size, 0, none⟩ = some (.int .u64 N) := by rw [cell_of hb2]; rfl
  have hcB : w2.cell? ⟨w.heap.size, 1, none⟩ = some (.int .i64 P) := by rw [cell_of hb2]; rfl
  have HR := hid hR
  clear hR
  go_wp2
  go_ret2
  have hal : Kept [] w2 (w2.alloc (.cells #[.int .u64 N, .int .i64 P, .pointer (some ⟨c, 0, none⟩), .pointer (some ⟨r, 0, none⟩)] 76)) := (Kept.refl _ _).alloc _
  have hsz := hK1.size
  have hsz2 := hK2.size
  simp at hc hb hbs hsz
  have n1 := HS.out.n1
  have n2 := HS.out.n2
  have n3 := HR.out.n1
  have n4 := HR.out.n2
  have n5 : b ≠ bs := by obtain ⟨_, _, _, _, h3, _⟩ := HS.out.ring; exact h3
  have n6 : rb ≠ rs := by obtain ⟨_, _, _, _, h3, _⟩ := HR.out.ring; exact h3
  refine ⟨⟨w2.heap.size, c, b, bs, r, rb, rs, N, P⟩, rfl, rfl, rfl, ⟨blk_alloc_new _ _, (HS.out.kept hK2 (by simp) (by simp) (by simp)).kept hal (by simp) (by simp) (by simp), HR.out.kept hal (by simp) (by simp) (by simp), ?_, by simp, by simp⟩, ((((Kept.refl [] w).alloc _).trans hK1).trans hK2).trans hal, ?_⟩
  · refine ⟨?_, ?_, ?_⟩ <;> simp [Ends.so, Ends.ro] <;> omega
  · intro x hx; simp [Ends.all] at hx; omega
set_option maxHeartbeats 1000000 in
theorem new_bad (N P k v : Int) (w : World) (h : k < 1 ∨ 256 < k) :
    Calls Try.prog 23 #[.agg #[.int .u64 N, .int .i64 P], .int .i64 k, .int .i64 v] w fun e w' => e = .returned (.tuple #[.pointer none, .int .i64 1]) ∧ Kept [] w w' := by
  go_enter Try.func23, Try.ntmps23
  go_wp2_with fail
  refine (SSt.new_bad _ _ _ h).mono ?_
  rintro e w1 ⟨rfl, hw⟩
  subst hw
  go_wp2
  go_ret2
  exact ⟨rfl, (Kept.refl [] w).alloc _⟩
set_option maxHeartbeats 1000000 in
theorem new_badw (N P k v : Int) (m : Nat) (hk : k = (m : Int)) (w : World) (h1 : 1 ≤ m) (h2 : m ≤ 256) (h : v < 1 ∨ 32 < v) :
    Calls Try.prog 23 #[.agg #[.int .u64 N, .int .i64 P], .int .i64 k, .int .i64 v] w fun e w' => e = .returned (.tuple #[.pointer none, .int .i64 1]) ∧ Kept [] w w' := by
  subst hk
  go_enter Try.func23, Try.ntmps23
  go_wp2_with fail
  refine (SSt.new_badw _ _ m rfl _ h1 h2 h).mono ?_
  rintro e w1 ⟨rfl, hK⟩
  go_wp2
  go_ret2
  exact ⟨rfl, ((Kept.refl [] w).alloc _).trans hK⟩
theorem put_ok {w : World} {E : Ends} {m win acked next : Nat} {lo li : List Value} (h : Link w E m win acked lo next li) (hl : lo.length < m) (s : ByteArray) :
    Calls Try.prog 24 #[.pointer (some ⟨E.k, 0, none⟩), .string s] w fun e w' => e = .returned (.int .i64 0) ∧ Link w' E m win acked (lo ++ [.string s]) next li ∧ Kept E.so w w' := by
  have h2 := h.c2
  have H := hid h
  clear h
  go_enter Try.func24, Try.ntmps24
  go_wp2_with fail
  refine (SSt.put_ok H.out.out hl s).mono ?_
  rintro e w1 ⟨rfl, hS, hK⟩
  have HS := hid hS
  clear hS
  go_wp2
  go_ret
  exact ⟨rfl, H.out.sent HS.out hK (by simp [Ends.so]) (fun x hx => by rcases List.mem_append.1 hx with hx | hx; exact H.out.os x hx; simp at hx; exact ⟨_, hx⟩), hK.mono (by simp [Ends.so])⟩
theorem put_busy {w : World} {E : Ends} {m win acked next : Nat} {lo li : List Value} (h : Link w E m win acked lo next li) (hl : lo.length = m) (s : ByteArray) :
    Calls Try.prog 24 #[.pointer (some ⟨E.k, 0, none⟩), .string s] w fun e w' => e = .returned (.int .i64 7) ∧ ∃ k, w' = w.drewN k := by
  have h2 := h.c2
  have H := hid h
  have HL := hid hl
  clear h hl
  go_enter Try.func24, Try.ntmps24
  go_wp2_with fail
  refine (SSt.put_busy H.out.out HL.out s).mono ?_
  rintro e w1 ⟨rfl, kd, rfl⟩
  go_wp2
  go_ret
  exact ⟨rfl, kd, rfl⟩
theorem put_nil (s : ByteArray) (w : World) :
    Calls Try.prog 24 #[.pointer none, .string s] w fun e w' => e = .returned (.int .i64 6) ∧ w = w' := by
  go_enter Try.func24, Try.ntmps24
  go_wp2
  go_ret
  exact ⟨rfl, rfl⟩
theorem take_ok {w : World} {E : Ends} {m win acked next : Nat} {x : Value} {lo li : List Value} (h : Link w E m win acked lo next (x :: li)) :
    Calls Try.prog 27 #[.pointer (some ⟨E.k, 0, none⟩)] w fun e w' => e = .returned (.tuple #[x, .int .i64 0]) ∧ Link w' E m win acked lo next li ∧ Kept E.ro w w' := by
  have h3 := h.c3
  have hx := h.is x (by simp)
  have H := hid h
  clear h
  obtain ⟨s, rfl⟩ := hx
  go_enter Try.func27, Try.ntmps27
  go_wp2_with fail
  refine (CIn.take_ok H.out.inn rfl).mono ?_
  rintro e w1 ⟨rfl, hR, hK⟩
  have HR := hid hR
  clear hR
  go_wp2
  go_ret2
  exact ⟨rfl, H.out.came HR.out hK (by simp [Ends.ro]) (fun x hx => H.out.is x (by simp [hx])), hK.mono (by simp [Ends.ro])⟩
theorem take_none {w : World} {E : Ends} {m win acked next : Nat} {lo : List Value} (h : Link w E m win acked lo next []) :
    Calls Try.prog 27 #[.pointer (some ⟨E.k, 0, none⟩)] w fun e w' => e = .returned (.tuple #[.int .i64 0, .int .i64 6]) ∧ w = w' := by
  have h3 := h.c3
  have H := hid h
  clear h
  go_enter Try.func27, Try.ntmps27
  go_wp2_with fail
  refine (CIn.take_none H.out.inn).mono ?_
  rintro e w1 ⟨rfl, rfl⟩
  go_wp2
  go_ret2
  exact ⟨rfl, rfl⟩
theorem take_nil (w : World) :
    Calls Try.prog 27 #[.pointer none] w fun e w' => e = .returned (.tuple #[.int .i64 0, .int .i64 6]) ∧ w = w' := by
  go_enter Try.func27, Try.ntmps27
  go_wp2
  go_ret2
  exact ⟨rfl, rfl⟩
theorem room_any {w : World} {E : Ends} {m win acked next : Nat} {lo li : List Value} (h : Link w E m win acked lo next li) :
    Calls Try.prog 25 #[.pointer (some ⟨E.k, 0, none⟩)] w fun e w' => e = .returned (.int .i64 ((m : Int) - (lo.length : Int))) ∧ ∃ k, w' = w.drewN k := by
  have h2 := h.c2
  have H := hid h
  clear h
  go_enter Try.func25, Try.ntmps25
  go_wp2_with fail
  refine (SSt.room_any H.out.out).mono ?_
  rintro e w1 ⟨rfl, kd, rfl⟩
  go_wp2
  go_ret
  exact ⟨rfl, kd, rfl⟩
theorem room_nil (w : World) :
    Calls Try.prog 25 #[.pointer none] w fun e w' => e = .returned (.int .i64 0) ∧ w = w' := by
  go_enter Try.func25, Try.ntmps25
  go_wp2
  go_ret
  exact ⟨rfl, rfl⟩
theorem acked_any {w : World} {E : Ends} {m win acked next : Nat} {lo li : List Value} (h : Link w E m win acked lo next li) :
    Calls Try.prog 26 #[.pointer (some ⟨E.k, 0, none⟩)] w fun e w' => e = .returned (.int .u64 (acked : Int)) ∧ w = w' := by
  have h2 := h.c2
  have H := hid h
  clear h
  go_enter Try.func26, Try.ntmps26
  go_wp2_with fail
  refine (SSt.acked_any H.out.out).mono ?_
  rintro e w1 ⟨rfl, rfl⟩
  go_wp2
  go_ret
  exact ⟨rfl, rfl⟩
theorem acked_nil (w : World) :
    Calls Try.prog 26 #[.pointer none] w fun e w' => e = .returned (.int .u64 0) ∧ w = w' := by
  go_enter Try.func26, Try.ntmps26
  go_wp2
  go_ret
  exact ⟨rfl, rfl⟩
theorem got_any {w : World} {E : Ends} {m win acked next : Nat} {lo li : List Value} (h : Link w E m win acked lo next li) :
    Calls Try.prog 28 #[.pointer (some ⟨E.k, 0, none⟩)] w fun e w' => e = .returned (.int .u64 (next : Int)) ∧ w = w' := by
  have h3 := h.c3
  have H := hid h
  clear h
  go_enter Try.func28, Try.ntmps28
  go_wp2_with fail
  refine (CIn.next_any H.out.inn).mono ?_
  rintro e w1 ⟨rfl, rfl⟩
  go_wp2
  go_ret
  exact ⟨rfl, rfl⟩
theorem got_nil (w : World) :
    Calls Try.prog 28 #[.pointer none] w fun e w' => e = .returned (.int .u64 0) ∧ w = w' := by
  go_enter Try.func28, Try.ntmps28
  go_wp2
  go_ret
  exact ⟨rfl, rfl⟩
theorem idle_any {w : World} {E : Ends} {m win acked next : Nat} {lo li : List Value} (h : Link w E m win acked lo next li) :
    Calls Try.prog 18 #[.pointer (some ⟨E.k, 0, none⟩)] w fun e w' => e = .returned (.bool ((lo.length : Int) == 0)) ∧ w = w' := by
  have h2 := h.c2
  have H := hid h
  clear h
  go_enter Try.func18, Try.ntmps18
  go_wp2_with fail
  refine (SSt.len_any H.out.out).mono ?_
  rintro e w1 ⟨rfl, rfl⟩
  go_wp2
  go_ret
  exact ⟨rfl, rfl⟩
theorem idle_nil (w : World) :
    Calls Try.prog 18 #[.pointer none] w fun e w' => e = .returned (.bool true) ∧ w = w' := by
  go_enter Try.func18, Try.ntmps18
  go_wp2
  go_ret
  exact ⟨rfl, rfl⟩
def OutPost (w : World) (E : Ends) (win acked next : Nat) (lo : List Value) (e : Ending) (w' : World) : Prop :=
  ∃ v, e = .returned (.agg #[.int .u64 E.N, .int .i64 E.P, .int .u64 (acked : Int), v, .int .u64 (next : Int)]) ∧ OwnL w.heap.size 9 w' v (lo.take win) ∧ Kept [] w w'
set_option maxHeartbeats 1000000 in
theorem out_any {w : World} {E : Ends} {m win acked next : Nat} {lo li : List Value} (h : Link w E m win acked lo next li) :
    Calls Try.prog 15 #[.pointer (some ⟨E.k, 0, none⟩)] w (OutPost w E win acked next lo) := by
  have hal : Kept [] w (w.alloc (.cells #[.int .u64 0, .int .i64 0, .int .u64 0, .slice none 0 0, .int .u64 0] 45)) := (Kept.refl _ _).alloc _
  have h2 := (h.still hal).c2
  have H := hid (h.still hal)
  have hlt := h.lt
  clear h
  go_enter Try.func15, Try.ntmps15
  go_wp2_with fail
  refine (SSt.window_any H.out.out H.out.os).mono ?_
  rintro e w1 ⟨v, rfl, hO, hK⟩
  have hb := hK.blk (blk_alloc_new w _) (by simp)
  have H1 := H.out.still hK
  have c0 := H1.c0
  have c1 := H1.c1
  have c3 := H1.c3
  have HN : ∀ W, W.heap = w1.heap → Calls Try.prog 34 #[.pointer (some ⟨E.r, 0, none⟩)] W fun e w'' => e = .returned (.int .u64 (next : Int)) ∧ w'' = W := fun W hW => by
    refine (CIn.next_any (c := E.r) (b := E.rb) (bs := E.rs) (m := m) (next := next) (l := li) ?_).mono ?_
    · obtain ⟨x1, x2, x3, x4⟩ := H1.inn
      exact ⟨by rw [hW]; exact x1, by unfold Ring at *; rw [hW]; exact x2, x3, x4⟩
    · rintro e w9 ⟨a1, a2⟩
      exact ⟨a1, a2.symm⟩
  obtain ⟨va, vn, vc, rfl⟩ := hO.form'
  have HO := hid hO
  have HB := hid hb
  have HQ := hid HN
  have hf : w1.frozen? ⟨w.heap.size, 0, none⟩ = false := frozen_of hb
  clear hO HN H1
  go_wp2
  refine wp_region_quiet_tail 12 (by kernel_rfl) (by kernel_rfl) ?_
  simp only [List.take_succ_cons, List.take_zero, List.drop_succ_cons, List.drop_zero]
  repeat (go_big_quiet_step (exact HQ.out w1.drew rfl _))
  refine wpQuiet_nil ?_
  refine wpList_store_row rfl 45 (.tmp 2) (.tmp 27) rfl w.heap.size _ rfl rfl 45 #[.int .u64 0, .int .i64 0, .int .u64 0, .slice none 0 0, .int .u64 0] (by exact HB.out) (by kernel_rfl) rfl (by simp [Value.oneCell']) ?_
  obtain ⟨W5, hW5⟩ : ∃ W5, W5 = w1.drew.setRow w.heap.size #[.int .u64 E.N, .int .i64 E.P, .int .u64 (acked : Int), .slice va vn vc, .int .u64 (next : Int)] := ⟨_, rfl⟩
  have hK5 : Kept [w.heap.size] w1 W5 := by
    subst hW5
    exact ⟨rfl, rfl, rfl, by simp, fun k _ hk => setRow_other _ _ _ _ (fun h => hk (by simp [h]))⟩
  have hb5 : W5.heap[w.heap.size]? = some (.cells #[.int .u64 E.N, .int .i64 E.P, .int .u64 (acked : Int), .slice va vn vc, .int .u64 (next : Int)] 45 (0, 0)) := by
    subst hW5
    exact setRow_heap _ _ _ _ _ _ (by exact HB.out)
  have HK5 := hid hK5
  have HB5 := hid hb5
  rw [← hW5]
  clear hW5 hK5 hb5
  go_wp2
  try simp only [Exit.inBlock, Exit.then]
  refine bodyPost_ret (results_cell_row rfl _ _ _ _ _ _ _ rfl HB5.out Try.underlying45 rfl (by kernel_rfl)) rfl ?_
  exact ⟨_, rfl, (HO.out.kept HK5.out (fun k hk => by have := (HO.out.lt k hk).1; simp at this; simp; omega)).base (by simp), (hal.trans hK).join HK5.out (fun i hi hlt => by simp at hi; omega)⟩
set_option maxHeartbeats 1000000 in
theorem out_nil (w : World) :
    Calls Try.prog 15 #[.pointer none] w fun e w' => e = .returned (.agg #[.int .u64 0, .int .i64 0, .int .u64 0, .slice none 0 0, .int .u64 0]) ∧ Kept [] w w' := by
  have HB := hid (blk_alloc_new w (.cells #[.int .u64 0, .int .i64 0, .int .u64 0, .slice none 0 0, .int .u64 0] 45 (0, 0)))
  go_enter Try.func15, Try.ntmps15
  go_wp2
  try simp only [Exit.inBlock, Exit.then]
  refine bodyPost_ret (results_cell_row rfl _ _ _ _ _ _ _ rfl (by exact HB.out) Try.underlying45 rfl (by kernel_rfl)) rfl ?_
  exact ⟨rfl, (Kept.refl [] w).alloc _⟩
theorem ack_any {w : World} {c b bs m win acked : Nat} {l : List Value} (h : SSt.Send w c b bs m win acked l) (n : Nat) (hn : n ≤ acked + min l.length win) (hb : acked ≤ 4611686018427387904) (hone : ∀ x ∈ l, ∃ s : ByteArray, x = .string s) :
    Calls Try.prog 35 #[.pointer (some ⟨c, 0, none⟩), .int .u64 (n : Int)] w fun e w' => ∃ f : Int, e = .returned (.int .i64 f) ∧ ¬ f = 1 ∧ SSt.Send w' c b bs m win (max acked n) (l.drop (n - acked)) ∧ Kept [c, b, bs] w w' := by
  by_cases hs : n < acked
  · refine (SSt.ack_stale h (n : Int) (by omega)).mono ?_
    rintro e w' ⟨rfl, rfl⟩
    exact ⟨9, rfl, by decide, by rw [show max acked n = acked by omega, show n - acked = 0 by omega]; simpa using h, Kept.refl _ _⟩
  · refine (SSt.ack_ok h (n : Int) (n - acked) (by omega) hb (by omega) hone).mono ?_
    rintro e w' ⟨rfl, h1, h2⟩
    exact ⟨0, rfl, by decide, by rw [show max acked n = acked + (n - acked) by omega]; exact h1, h2⟩
theorem offer_any {w : World} {c b bs m next : Nat} {l : List Value} (h : CIn.Recv w c b bs m next l) (hnb : next ≤ 4611686018427387904) (base : Nat) (hb : base ≤ next) (a : Option Addr) (n cap : Nat) (xs : List Value) (hs : Sl w (.slice a n cap) xs)
    (ho : ∀ x ∈ xs, ∃ s : Int, x = .int .i64 s) (hout : 0 < xs.length → NotIn [c, b, bs] (.slice a n cap)) :
    Calls Try.prog 36 #[.pointer (some ⟨c, 0, none⟩), .int .u64 (base : Int), .slice a n cap] w (CIn.OfferPost w c b bs m next (next - base) l xs) := by
  by_cases hp : 0 < xs.length
  · exact CIn.offer_at h hnb (base : Int) base rfl hb a n cap xs hs ho (hout hp)
  · obtain ⟨hn, h1, h2⟩ := hs.len
    refine (CIn.offer_past h hnb base hb a n cap (by omega) (by omega)).mono ?_
    rintro e w' ⟨rfl, rfl⟩
    exact ⟨0, by omega, rfl, by simpa using h, Kept.refl _ _⟩
theorem in_nil (N P : Int) (base ack : Int) (a : Option Addr) (n cap : Nat) (w : World) :
    Calls Try.prog 16 #[.pointer none, .agg #[.int .u64 N, .int .i64 P, .int .u64 base, .slice a n cap, .int .u64 ack]] w fun e w' => e = .returned (.tuple #[.int .i64 0, .int .i64 6]) ∧ Kept [] w w' := by
  go_enter Try.func16, Try.ntmps16
  go_wp2
  go_ret2
  exact ⟨rfl, (Kept.refl [] w).alloc _⟩
set_option maxHeartbeats 1000000 in
theorem in_epoch {w : World} {E : Ends} {m win acked next : Nat} {lo li : List Value} (h : Link w E m win acked lo next li) (N P : Int) (hne : ¬ (N = E.N ∧ P = E.P)) (base ack : Int) (a : Option Addr) (n cap : Nat) :
    Calls Try.prog 16 #[.pointer (some ⟨E.k, 0, none⟩), .agg #[.int .u64 N, .int .i64 P, .int .u64 base, .slice a n cap, .int .u64 ack]] w fun e w' => e = .returned (.tuple #[.int .i64 0, .int .i64 9]) ∧ Kept [] w w' := by
  have hal : Kept [] w (w.alloc (.cells #[.int .u64 N, .int .i64 P, .int .u64 base, .slice a n cap, .int .u64 ack] 49)) := (Kept.refl _ _).alloc _
  have c0 := (h.still hal).c0
  have c1 := (h.still hal).c1
  have HAL := hid hal
  clear h hal
  by_cases hN : N = E.N
  · have hP : ¬ P = E.P := fun h => hne ⟨hN, h⟩
    subst hN
    clear hne
    go_enter Try.func16, Try.ntmps16
    go_wp2
    go_quiet (fail)
    go_wp2
    go_ret2
    exact ⟨rfl, HAL.out.drewN' _⟩
  · clear hne
    go_enter Try.func16, Try.ntmps16
    go_wp2
    go_quiet (fail)
    go_wp2
    go_ret2
    exact ⟨rfl, HAL.out.drewN' _⟩
theorem _root_.Go.Proofs.Ytagemhmjpfldoaa.Sl.keptIf {S : List Nat} {w w' : World} {v : Value} {xs : List Value} (h : Sl w v xs) (hk : Kept S w w') (hn : 0 < xs.length → NotIn S v) : Sl w' v xs := by
  by_cases hp : 0 < xs.length
  · exact h.kept hk (hn hp)
  · obtain ⟨a, cap, rfl, h1, h2, h3⟩ := h
    exact ⟨a, cap, rfl, h1, h2, fun h => absurd h hp⟩
def InPost (w : World) (E : Ends) (m win acked ack next base : Nat) (lo li xs : List Value) (e : Ending) (w' : World) : Prop :=
  ∃ k : Nat, k = min (xs.length - (next - base)) (m - li.length) ∧ e = .returned (.tuple #[.int .i64 (k : Int), .int .i64 0]) ∧ Link w' E m win (max acked ack) (lo.drop (ack - acked)) (next + k) (li ++ (xs.drop (next - base)).take k) ∧ Kept E.all w w'
set_option maxHeartbeats 2000000 in
theorem in_ok {w : World} {E : Ends} {m win acked next : Nat} {lo li : List Value} (h : Link w E m win acked lo next li) (base ack : Nat) (hack : ack ≤ acked + min lo.length win) (hba : acked ≤ 4611686018427387904) (hbn : next ≤ 4611686018427387904) (hb : base ≤ next)
    (a : Option Addr) (n cap : Nat) (xs : List Value) (hs : Sl w (.slice a n cap) xs) (ho : ∀ x ∈ xs, ∃ s : Int, x = .int .i64 s) (hout : 0 < xs.length → NotIn E.all (.slice a n cap)) :
    Calls Try.prog 16 #[.pointer (some ⟨E.k, 0, none⟩), .agg #[.int .u64 E.N, .int .i64 E.P, .int .u64 (base : Int), .slice a n cap, .int .u64 (ack : Int)]] w (InPost w E m win acked ack next base lo li xs) := by
  have hal : Kept [] w (w.alloc (.cells #[.int .u64 E.N, .int .i64 E.P, .int .u64 (base : Int), .slice a n cap, .int .u64 (ack : Int)] 49)) := (Kept.refl _ _).alloc _
  have c0 := (h.still hal).c0
  have c1 := (h.still hal).c1
  have c2 := (h.still hal).c2
  have hlt := h.lt
  have hlts := hlt _ E.ms
  have hltsb := hlt _ E.msb
  have hltss := hlt _ E.mss
  have H := hid (h.still hal)
  have HAL := hid hal
  have HSL := hid (hs.kept hal (not_in_nil _))
  have HHH := hid h
  have HOUT := hid (fun hp => (fun k hk => by have h1 := hout hp k hk; simp [Ends.all] at h1; simp; omega : NotIn [E.s, E.sb, E.ss] (.slice a n cap)) : 0 < xs.length → NotIn [E.s, E.sb, E.ss] (.slice a n cap))
  have HOUR := hid (fun hp => (fun k hk => by have h1 := hout hp k hk; simp [Ends.all] at h1; simp; omega : NotIn [E.r, E.rb, E.rs] (.slice a n cap)) : 0 < xs.length → NotIn [E.r, E.rb, E.rs] (.slice a n cap))
  clear h hal hlt
  go_enter Try.func16, Try.ntmps16
  go_wp2
  go_quiet (fail)
  go_wp2
  refine wp_region_quiet_tail 6 (by kernel_rfl) (by kernel_rfl) ?_
  simp only [List.take_succ_cons, List.take_zero, List.drop_succ_cons, List.drop_zero]
  repeat (go_big_quiet_step (fail))
  refine wpQuiet_nil ?_
  go_wp2_with fail
  have HX := hid (H.out.still (Kept.drewN [] _ (nq + 1)))
  refine (ack_any HX.out.out ack hack hba H.out.os).mono ?_
  rintro e w3 ⟨f, rfl, hf, hS3, hK3⟩
  have hb3 := hK3.blk (blk_alloc_new w _) (by simp; omega)
  have H3 : Link w3 E m win (max acked ack) (lo.drop (ack - acked)) next li := HX.out.sent hS3 hK3 (by simp [Ends.so]) (fun x hx => H.out.os x (List.mem_of_mem_drop hx))
  have d3 := H3.c3
  have e2 : w3.cell? ⟨w.heap.size, 2, none⟩ = some (.int .u64 (base : Int)) := by rw [cell_of hb3]; rfl
  have e3 : w3.cell? ⟨w.heap.size, 3, none⟩ = some (.slice a n cap) := by rw [cell_of hb3]; rfl
  have HS3 := hid H3
  have HK3 := hid hK3
  have HB3 := hid hb3
  clear H3 hS3 hK3 hb3 c0 c1 c2
  go_wp2
  have HX5 := hid (HS3.out.still (Kept.drewN [] _ 1))
  have HSL5 := hid (((HSL.out.kept (Kept.drewN [] _ (nq + 1)) (not_in_nil _)).keptIf HK3.out (fun hp => HOUT.out hp)).kept (Kept.drewN [] _ 1) (not_in_nil _))
  go_region_with (go_at_call 36; refine (offer_any (by exact HX5.out.inn.sim ⟨rfl, rfl, rfl, rfl⟩) hbn base hb a n cap xs (by exact HSL5.out.kept (S := []) ⟨rfl, rfl, rfl, Nat.le_refl _, fun _ _ _ => rfl⟩ (not_in_nil _)) ho (fun hp => HOUR.out hp)).mono ?_; rintro e w6 ⟨k, hk, rfl, hR6, hK6⟩; have HR6 := hid hR6; have HK6 := hid hK6; have HKK := hid hk; clear hR6 hK6 hk)
  all_goals
    go_wp2
    go_ret2
    refine ⟨k, HKK.out, rfl, HX5.out.came HR6.out ((⟨rfl, rfl, rfl, Nat.le_refl _, fun _ _ _ => rfl⟩ : Kept [E.r, E.rb, E.rs] (w3.drewN 1) w3.drew).trans HK6.out) (by simp [Ends.ro]) (fun x hx => ?_), ?_⟩
    · rcases List.mem_append.1 hx with hx | hx
      · exact HHH.out.is x hx
      · exact ho x (List.mem_of_mem_drop (List.mem_of_mem_take hx))
    · exact (((HAL.out.mono (by simp)).trans (Kept.drewN E.all _ (nq + 1))).trans (HK3.out.mono (by simp [Ends.all]))).trans ((⟨rfl, rfl, rfl, Nat.le_refl _, fun _ _ _ => rfl⟩ : Kept E.all w3 w3.drew).trans (HK6.out.mono (by simp [Ends.all])))
set_option maxHeartbeats 2000000 in
theorem in_gap {w : World} {E : Ends} {m win acked next : Nat} {lo li : List Value} (h : Link w E m win acked lo next li) (base : Int) (ack : Nat) (hack : ack ≤ acked + min lo.length win) (hba : acked ≤ 4611686018427387904) (hb : (next : Int) < base)
    (a : Option Addr) (n cap : Nat) :
    Calls Try.prog 16 #[.pointer (some ⟨E.k, 0, none⟩), .agg #[.int .u64 E.N, .int .i64 E.P, .int .u64 base, .slice a n cap, .int .u64 (ack : Int)]] w fun e w' => e = .returned (.tuple #[.int .i64 0, .int .i64 1]) ∧ Link w' E m win (max acked ack) (lo.drop (ack - acked)) next li ∧ Kept E.all w w' := by
  have hal : Kept [] w (w.alloc (.cells #[.int .u64 E.N, .int .i64 E.P, .int .u64 base, .slice a n cap, .int .u64 (ack : Int)] 49)) := (Kept.refl _ _).alloc _
  have c0 := (h.still hal).c0
  have c1 := (h.still hal).c1
  have c2 := (h.still hal).c2
  have hlt := h.lt
  have hlts := hlt _ E.ms
  have hltsb := hlt _ E.msb
  have hltss := hlt _ E.mss
  have H := hid (h.still hal)
  have HAL := hid hal
  have HHH := hid h
  clear h hal hlt
  go_enter Try.func16, Try.ntmps16
  go_wp2
  go_quiet (fail)
  go_wp2
  refine wp_region_quiet_tail 6 (by kernel_rfl) (by kernel_rfl) ?_
  simp only [List.take_succ_cons, List.take_zero, List.drop_succ_cons, List.drop_zero]
  repeat (go_big_quiet_step (fail))
  refine wpQuiet_nil ?_
  go_wp2_with fail
  have HX := hid (H.out.still (Kept.drewN [] _ (nq + 1)))
  refine (ack_any HX.out.out ack hack hba H.out.os).mono ?_
  rintro e w3 ⟨f, rfl, hf, hS3, hK3⟩
  have hb3 := hK3.blk (blk_alloc_new w _) (by simp; omega)
  have H3 : Link w3 E m win (max acked ack) (lo.drop (ack - acked)) next li := HX.out.sent hS3 hK3 (by simp [Ends.so]) (fun x hx => H.out.os x (List.mem_of_mem_drop hx))
  have d3 := H3.c3
  have e2 : w3.cell? ⟨w.heap.size, 2, none⟩ = some (.int .u64 base) := by rw [cell_of hb3]; rfl
  have e3 : w3.cell? ⟨w.heap.size, 3, none⟩ = some (.slice a n cap) := by rw [cell_of hb3]; rfl
  have HS3 := hid H3
  have HK3 := hid hK3
  have HB3 := hid hb3
  clear H3 hS3 hK3 hb3 c0 c1 c2
  go_wp2
  have HX5 := hid (HS3.out.still (Kept.drewN [] _ 1))
  go_region_with (go_at_call 36; refine (CIn.offer_gap (by exact HX5.out.inn.sim ⟨rfl, rfl, rfl, rfl⟩) base hb a n cap).mono ?_; rintro e w6 ⟨rfl, hw6⟩; subst hw6)
  all_goals
    go_wp2
    go_ret2
    exact ⟨rfl, HX5.out.sim ⟨rfl, rfl, rfl, rfl⟩, (((HAL.out.mono (by simp)).trans (Kept.drewN E.all _ (nq + 1))).trans (HK3.out.mono (by simp [Ends.all]))).trans (⟨rfl, rfl, rfl, Nat.le_refl _, fun _ _ _ => rfl⟩ : Kept E.all w3 w3.drew)⟩
set_option maxHeartbeats 2000000 in
theorem in_bad {w : World} {E : Ends} {m win acked next : Nat} {lo li : List Value} (h : Link w E m win acked lo next li) (base ack : Int) (hack : (acked : Int) ≤ ack) (hba : ack ≤ 18446744073709551615) (hb : (min lo.length win : Nat) < ack - (acked : Int))
    (a : Option Addr) (n cap : Nat) :
    Calls Try.prog 16 #[.pointer (some ⟨E.k, 0, none⟩), .agg #[.int .u64 E.N, .int .i64 E.P, .int .u64 base, .slice a n cap, .int .u64 ack]] w fun e w' => e = .returned (.tuple #[.int .i64 0, .int .i64 1]) ∧ Kept [] w w' := by
  have hal : Kept [] w (w.alloc (.cells #[.int .u64 E.N, .int .i64 E.P, .int .u64 base, .slice a n cap, .int .u64 ack] 49)) := (Kept.refl _ _).alloc _
  have c0 := (h.still hal).c0
  have c1 := (h.still hal).c1
  have c2 := (h.still hal).c2
  have hlt := h.lt
  have hlts := hlt _ E.ms
  have hltsb := hlt _ E.msb
  have hltss := hlt _ E.mss
  have H := hid (h.still hal)
  have HAL := hid hal
  have HHH := hid h
  clear h hal hlt
  go_enter Try.func16, Try.ntmps16
  go_wp2
  go_quiet (fail)
  go_wp2
  refine wp_region_quiet_tail 6 (by kernel_rfl) (by kernel_rfl) ?_
  simp only [List.take_succ_cons, List.take_zero, List.drop_succ_cons, List.drop_zero]
  repeat (go_big_quiet_step (fail))
  refine wpQuiet_nil ?_
  go_wp2_with fail
  have HX := hid (H.out.still (Kept.drewN [] _ (nq + 1)))
  refine (SSt.ack_out HX.out.out ack hack hba hb).mono ?_
  rintro e w3 ⟨rfl, kd, rfl⟩
  go_wp2
  go_ret2
  exact ⟨rfl, HAL.out.trans (Kept.drewN [] _ (nq + 1 + kd))⟩
end LSt
end Go.Proofs.Ytagemhmjpfldoaa
