/- The law's own helper 'act', one arm of it. -/
import Derived.Test.YtagemhmjpfldoaaLinkActBase
namespace Go.Proofs.Ytagemhmjpfldoaa
open Go.RowKit
set_option linter.unusedVariables false
set_option linter.unusedSimpArgs false

set_option maxRecDepth 100000 in
set_option maxHeartbeats 8000000 in
theorem act4 {w0 : World} {T : Nat → Nat} {w : World} {wb : Nat} {A B : Ends} {m win : Nat} {V : Six} {lA lB : List (Pk × Value)} {s : St} (h : Wo w0 T w wb A B m win V lA lB s) (hinv : Inv m win s) (hsm : lB.length ≤ 100000) (hpA : s.pA.length ≤ 100000) (hpB : s.pB.length ≤ 100000)
    (k : Int) (hk1 : 0 ≤ k) (hk2 : k ≤ 255) (hk : k % 9 = 4) (x : ByteArray) (n : Int) (hn1 : -9223372036854775808 ≤ n) (hn2 : n ≤ 9223372036854775807) :
    Calls Try.prog 12 #[.pointer (some ⟨wb, 0, none⟩), .agg #[.int .u8 k, .string x, .int .i64 n]] w (ActPost w0 wb A B m win (match s.tB[((n % 18446744073709551616) % s.tB.length).toNat]? with | some p => s.inB m p | none => s)) := by
  have hal : Kept [] w (w.alloc (.cells #[.int .u8 k, .string x, .int .i64 n] 28)) := (Kept.refl _ _).alloc _
  have h1 := h.still hal 0
  have H := hid h
  have H1 := hid h1
  have HAL := hid hal
  have c0 := h1.cells.2.1
  have c1 := h1.cells.2.2.2.2.2.2.2
  clear h h1 hal
  have hmap := H.out.fB
  have hlen : s.tB.length = lB.length := by rw [hmap, List.length_map]
  rw [hlen, hmap]
  rcases Nat.eq_zero_or_pos lB.length with h0 | hpos
  · have h0' : lB = [] := List.eq_nil_of_length_eq_zero h0
    obtain ⟨a, cap, hv, _, _⟩ := H.out.tB.form
    rw [hv, h0] at c1
    rw [h0']
    simp only [List.length_nil, List.map_nil, List.getElem?_nil]
    clear hmap hlen
    go_enter Try.func12, Try.ntmps12
    go_wp2
    go_end0
    exact ⟨⟨_, rfl⟩, _, _, _, _, H1.out⟩
  · obtain ⟨u, hu⟩ : ∃ u : Nat, n % 18446744073709551616 = (u : Int) := ⟨(n % 18446744073709551616).toNat, by omega⟩
    have hidx : u % lB.length < lB.length := Nat.mod_lt _ hpos
    obtain ⟨j, hj⟩ : ∃ j, j = u % lB.length := ⟨_, rfl⟩
    rw [← hj] at hidx
    have hji : ((u : Int) % (lB.length : Int)) = (j : Int) := by rw [hj]; omega
    have hW : Go.RowKit.wrap64 ((IntKind.u64.wrap n).tmod (lB.length : Int)) = (j : Int) := by
      rw [IntKind.wrap_u64, hu, Int.tmod_eq_emod_of_nonneg (by omega), hji]
      unfold Go.RowKit.wrap64
      omega
    rw [hu, hji]
    simp only [Int.toNat_natCast, List.getElem?_map, List.getElem?_eq_getElem hidx, Option.map_some]
    obtain ⟨g, off, cap, hv, hcap⟩ : ∃ g off cap, V.tB = .slice (some ⟨g, off, none⟩) lB.length cap ∧ lB.length ≤ cap := by
      obtain ⟨hl, ⟨h, h0⟩ | ⟨g, off, cap, c, h, _, _, hn, _⟩⟩ := H.out.tB
      · omega
      · exact ⟨g, off, cap, h, hn⟩
    have hT := H1.out.tB
    rw [hv] at c1 hT
    obtain ⟨g', off', hgo, _, hcell⟩ := hT.at hpos
    cases hgo
    have hqm : lB[j] ∈ lB := List.getElem_mem hidx
    have hq := H1.out.sB _ hqm
    have hqt := H1.out.tsB _ hqm
    have hpk := hinv.tB lB[j].1 (by rw [hmap]; exact List.mem_map_of_mem hqm)
    have cell5 : ∀ jj, jj < 5 → (w.alloc (.cells #[.int .u8 k, .string x, .int .i64 n] 28)).cell? ⟨g, off + j * 5 + jj, none⟩ = (rowOf lB[j])[jj]? := by
      intro jj h
      have hi : j * 5 + jj < (rows lB).length := by rw [rows_length]; omega
      rw [show off + j * 5 + jj = off + (j * 5 + jj) by omega, hcell _ hi, ← List.getElem?_eq_getElem hi, rows_get lB j hidx jj h]
    generalize lB[j] = q at *
    obtain ⟨⟨base, items, ack⟩, v⟩ := q
    obtain ⟨va, vn, vc, hvv⟩ := hq.form'
    dsimp only at hvv
    subst hvv
    have d0 := cell5 0 (by omega)
    have d1 := cell5 1 (by omega)
    have d2 := cell5 2 (by omega)
    have d3 := cell5 3 (by omega)
    have d4 := cell5 4 (by omega)
    simp only [rowOf, List.getElem?_cons_zero, List.getElem?_cons_succ, Nat.add_zero] at d0 d1 d2 d3 d4
    dsimp only at hpk hq hqt
    have hposi : (0 : Int) < (lB.length : Int) := by omega
    have hjL : (j : Int) < (lB.length : Int) := by omega
    have hLm : (lB.length : Int) ≤ 100000 := by omega
    have HQ := hid hq
    have HQT := hid hqt
    have HPK := hid hpk
    have HINV := hid hinv
    have hsp := (fun x hx => by
      rw [hpk.i] at hx
      exact H.out.oA x (List.mem_of_mem_drop (List.mem_of_mem_take hx)) : ∀ x ∈ items, ∃ z, x = _)
    have HSP := hid hsp
    clear hq hqt hpk hqm hcell cell5 hmap hlen hT hv hinv hsp hj hji hu
    go_enter Try.func12, Try.ntmps12
    go_wp2
    refine wp_region_quiet_tail 21 (by kernel_rfl) (by kernel_rfl) ?_
    simp only [List.take_succ_cons, List.take_zero, List.drop_succ_cons, List.drop_zero]
    repeat (go_big_quiet_step (fail))
    refine wpQuiet_nil ?_
    go_wp2_with fail
    have HX := hid (H1.out.b.still (Kept.drewN [] _ 1))
    have hba := HPK.out.b
    have hha := HINV.out.ab
    have hhb := HINV.out.ba
    have h1a := hha.an
    have h1n := hha.np
    have h2a := hhb.an
    have h2n := hhb.np
    have h2w := hhb.nw
    have h2l := hhb.ll
    have hpa := HPK.out.a
    refine (LIn.in_at (by exact HX.out.sim ⟨rfl, rfl, rfl, rfl⟩) 4 2 (by exact H1.out.eB.1.symm) (by exact H1.out.eB.2.symm) base ack (by omega) (by omega) (by omega) (by omega) va vn vc items (by exact (HQ.out.kept (S := []) (Kept.drewN [] _ 1) (not_in_nil _)).sl) HSP.out (by exact fun _ => HQT.out.out (C := fun c => c == 2) (fun k hk => by rw [H1.out.t2 k hk]; rfl) rfl)).mono ?_
    rintro e w2 ⟨kk, hkk, rfl, hL, hK⟩
    obtain rfl : kk = kin m base s.nxB items s.liB := hkk
    have hK2 : Kept B.all (w.alloc (.cells #[.int .u8 k, .string x, .int .i64 n] 28)) w2 := hK.as ⟨rfl, rfl, rfl, rfl⟩
    have h2 := H1.out.carry hK2 (fun c => c == 2) rfl (fun k hk => by rw [H1.out.t2 k hk]; rfl) 0 V lA lB (s.inB m ⟨base, items, ack⟩) rfl ⟨rfl, rfl, rfl, rfl⟩ hL ⟨rfl, rfl⟩ ⟨rfl, rfl⟩ ⟨rfl, rfl⟩ ⟨rfl, rfl⟩ ⟨rfl, rfl, rfl⟩ ⟨rfl, rfl, rfl⟩ rfl
    have H2 := hid h2
    clear h2 hK hK2 hL
    go_wp2
    go_end0
    exact ⟨⟨_, rfl⟩, _, _, _, _, H2.out⟩
end Go.Proofs.Ytagemhmjpfldoaa
