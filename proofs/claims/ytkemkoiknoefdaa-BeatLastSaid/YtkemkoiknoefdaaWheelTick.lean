/- The wheel's 'Tick'. -/
import Derived.Test.YtkemkoiknoefdaaWheelTurnC
namespace Go.Proofs.Ytkemkoiknoefdaa
open Go.RowKit Go.Maps
set_option linter.unusedVariables false
set_option linter.unusedSimpArgs false

theorem tm_inj {x y : Tm} (h1 : x.due = y.due) (h2 : x.id = y.id) (h3 : x.n = y.n) : x = y := by cases x; cases y; simp_all
/-- Where a timer is laid among those that are due: behind all that came ahead of it. -/
def seek (l : List Tm) (n : Nat) : Nat → Nat
  | 0 => 0
  | i + 1 => if (l[i]?.map fun x => decide (n < x.n)) = some true then seek l n i else i + 1
theorem seek_le (l : List Tm) (n : Nat) : ∀ i, seek l n i ≤ i
  | 0 => by simp [seek]
  | i + 1 => by
    unfold seek
    split
    · have := seek_le l n i; omega
    · omega
theorem seek_gt {l : List Tm} {n i : Nat} {x : Tm} (h : l[i]? = some x) (hx : n < x.n) : seek l n (i + 1) = seek l n i := by
  show (if _ then _ else _) = _
  rw [if_pos (by rw [h]; simp [hx])]
theorem seek_stop {l : List Tm} {n i : Nat} {x : Tm} (h : l[i]? = some x) (hx : ¬ n < x.n) : seek l n (i + 1) = i + 1 := by
  show (if _ then _ else _) = _
  rw [if_neg (by rw [h]; simp [hx])]
def insAt (l : List Tm) (i : Nat) (t : Tm) : List Tm := l.take i ++ t :: l.drop i
def ins (l : List Tm) (t : Tm) : List Tm := insAt l (seek l t.n l.length) t
theorem ins_length (l : List Tm) (t : Tm) : (ins l t).length = l.length + 1 := by
  have := seek_le l t.n l.length
  unfold ins insAt
  simp; omega
structure Tk where
  d : Int → Nat
  sz : Nat
  due : List Tm
/-- A timer of the list whose time has come. -/
def Tk.step (k : Tk) (t : Tm) : Tk := if k.d t.id = t.n then ⟨fun i => if i = t.id then 0 else k.d i, if k.d t.id = 0 then k.sz else k.sz - 1, ins k.due t⟩ else k
def tick (d : Int → Nat) (sz : Nat) (l : List Tm) : Tk := l.foldl Tk.step ⟨d, sz, []⟩
theorem tick_len (k : Tk) (t : Tm) : (k.step t).due.length ≤ k.due.length + 1 := by
  unfold Tk.step
  split
  · show (ins k.due t).length ≤ _; rw [ins_length]; omega
  · omega
def ids (l : List Tm) : List Value := l.map fun t => .int .i64 t.id
def TickPost (w : World) (b mb now n cnt : Nat) (d : Int → Nat) (sz : Nat) (vs : Nat → Value) (sl : Nat → List Tm) (e : Ending) (w' : World) : Prop :=
  ∃ v vs', e = .returned (.tuple #[v, .int .i64 0]) ∧ Own w.heap.size 3 1 w' v (tick d sz (turned (now + 1) d sl ((now + 1) % 16))).due.length (ids (tick d sz (turned (now + 1) d sl ((now + 1) % 16))).due) ∧ (∀ j, v.ownBlock = some j → ¬ Wh.In b mb vs' j) ∧
    Wh w' b mb (now + 1) n cnt (tick d sz (turned (now + 1) d sl ((now + 1) % 16))).d (tick d sz (turned (now + 1) d sl ((now + 1) % 16))).sz vs' (upd (turned (now + 1) d sl) ((now + 1) % 16) []) ∧ Turned w b mb vs w' vs'

theorem tms_take : ∀ (l : List Tm) (k : Nat), tms (l.take k) = (tms l).take (k * 3)
  | [], k => by simp [tms]
  | q :: l, 0 => by simp [tms]
  | q :: l, k + 1 => by
    rw [List.take_succ_cons]
    simp only [tms]
    rw [tms_take l k, show (k + 1) * 3 = (tmRow q).length + k * 3 by simp [tmRow]; omega, List.take_length_add_append]
theorem tms_drop : ∀ (l : List Tm) (k : Nat), tms (l.drop k) = (tms l).drop (k * 3)
  | [], k => by simp [tms]
  | q :: l, 0 => by simp
  | q :: l, k + 1 => by
    rw [List.drop_succ_cons]
    simp only [tms]
    rw [tms_drop l k, show (k + 1) * 3 = (tmRow q).length + k * 3 by simp [tmRow]; omega, List.drop_length_add_append]
theorem tms_one : ∀ (l : List Tm), ∀ u ∈ tms l, u.oneCell' = true
  | [], u, h => by simp [tms] at h
  | q :: l, u, h => by
    simp only [tms, List.mem_append] at h
    rcases h with h | h
    · simp [tmRow] at h; rcases h with rfl | rfl | rfl <;> rfl
    · exact tms_one l u h
theorem tmRow_one (t : Tm) : ∀ u ∈ tmRow t, u.oneCell' = true := by simp [tmRow, Value.oneCell']
theorem Own.takeN {base : Nat} {E : TypeId} {sz : Nat} {w : World} {a : Option Addr} {n cap : Nat} {xs : List Value} (h : Own base E sz w (.slice a n cap) n xs) {k : Nat} (hk : k ≤ n) : Own base E sz w (.slice a k cap) k (xs.take (k * sz)) := by
  obtain ⟨hl, ⟨h, h0⟩ | ⟨g, off, cap', c, h, hb, hg, hl', hs, hm, rest⟩⟩ := h
  · cases h
    obtain rfl : k = 0 := by omega
    exact ⟨by simp, .inl ⟨rfl, rfl⟩⟩
  · cases h
    have hmul : k * sz ≤ n * sz := Nat.mul_le_mul_right _ hk
    refine ⟨by rw [List.length_take]; omega, .inr ⟨g, off, cap, c, rfl, hb, hg, by omega, hs, hm, fun i hi => ?_⟩⟩
    rw [rest i (by rw [List.length_take] at hi; omega)]
    simp
theorem Own.dropCells {base : Nat} {E : TypeId} {sz : Nat} {w : World} {g off n cap : Nat} {xs : List Value} (h : Own base E sz w (.slice (some ⟨g, off, none⟩) n cap) n xs) (k : Nat) : ∀ (j : Nat) (u : Value), (xs.drop (k * sz))[j]? = some u → w.cell? ((⟨g, off + k * sz, none⟩ : Addr).add j) = some u := by
  obtain ⟨hl, ⟨h, h0⟩ | ⟨g', off', cap', c, h, hb, hg, hl', hs, hm, rest⟩⟩ := h
  · cases h
  · cases h
    intro j u hu
    rw [List.getElem?_drop] at hu
    obtain ⟨hj, rfl⟩ := List.getElem?_eq_some_iff.1 hu
    rw [Addr.add_lit, show off + k * sz + j = off + (k * sz + j) by omega, cell_of hg]
    exact rest _ hj
theorem Own.cellsIn {base : Nat} {E : TypeId} {sz : Nat} {w w' : World} {g off n cap : Nat} {xs : List Value} (h : Own base E sz w (.slice (some ⟨g, off, none⟩) n cap) n xs) (k : Nat) (hk : Kept [] w w') : ∀ (j : Nat) (u : Value), (xs.drop (k * sz))[j]? = some u → w'.cell? ((⟨g, off + k * sz, none⟩ : Addr).add j) = some u :=
  (h.kept hk (not_in_nil _)).dropCells k
theorem Own.some3 {base : Nat} {E : TypeId} {sz : Nat} {w : World} {v : Value} {n : Nat} {xs : List Value} (h : Own base E sz w v n xs) (hn : 0 < n) : ∃ g off cap, v = .slice (some ⟨g, off, none⟩) n cap ∧ n ≤ cap ∧ ∀ (j : Nat) (u : Value), xs[j]? = some u → w.cell? ((⟨g, off, none⟩ : Addr).add j) = some u := by
  obtain ⟨a, cap, rfl, h1, h2⟩ := h.form
  obtain ⟨g, off, rfl, _, hc⟩ := h.at hn
  refine ⟨g, off, cap, rfl, h1, fun j u hu => ?_⟩
  obtain ⟨hj, rfl⟩ := List.getElem?_eq_some_iff.1 hu
  rw [Addr.add_lit]
  exact hc j hj
theorem own_lit3 (w : World) (t : Tm) : Own w.heap.size 61 3 (w.alloc (.cells #[.int .u64 (t.due : Int), .int .i64 t.id, .int .u64 (t.n : Int)] 61)) (.slice (some ⟨w.heap.size, 0, none⟩) 1 1) 1 (tmRow t) := by
  refine ⟨rfl, .inr ⟨_, 0, 1, _, rfl, Nat.le_refl _, blk_alloc_new w _, Nat.le_refl _, by simp, by simp [maxLen], fun i hi => ?_⟩⟩
  simp [tmRow] at hi ⊢
theorem step_append_none {P : Program} {ops : Array Oper} {o : Oper} {a : Act} {w : World} {K : Act → World → Prop} {Q : Exit → Act → World → Prop} {E : Prop}
    (hg : o.guard = none) (s x : Operand) (t : TypeId) (hop : o.op = Op.call { callee := Callee.builtin Builtin.append, args := #[s, x], argTypes := #[t, t] })
    (e : TypeId) (z : Value) (sz bytes : Nat) (ht : P.underlying t = some (.slice e)) (hinfo : (P.info? e).map (fun i => (i.zero, i.size, i.bytes)) = some (some z, sz, bytes))
    (g off n cap : Nat) (hs : a.eval s = .slice (some ⟨g, off, none⟩) n cap) (hn : n ≤ cap) (hx : a.eval x = .slice none 0 0)
    (hK : K (a.put o.dst (.slice (some ⟨g, off, none⟩) n cap)) w) :
    if Region.wanted o (yielded ops a.tmps) = true then Oper.wp P o a w K Q else E := by
  have hw : Region.wanted o (yielded ops a.tmps) = true := by simp [Region.wanted, hg]
  rw [if_pos hw]
  obtain ⟨i, hi, hz, hsize, hby⟩ := info_parts hinfo
  have hr : (Builtin.append_ #[t, t] o.type #[.slice (some ⟨g, off, none⟩) n cap, .slice none 0 0]).run P w = .ok (.slice (some ⟨g, off, none⟩) n cap) w := by
    simp [Builtin.append_, run_underlying ht, sizeOf, typeInfo, hi, Builtin.lenOf, Builtin.firstCells, hn, storeCells]
  unfold Oper.wp execOp
  simp only [hop, resolve, invoke, builtin, Sem.run_bind, Sem.run_pure, Result.andThen_ok, List.map_toArray, List.map_cons, List.map_nil, hs, hx, hr]
  exact hK
theorem tick_ins (K0 : Tk) (t : Tm) (j : Nat) (h : seek K0.due t.n K0.due.length = j) : tms (ins K0.due t) = tms (K0.due.take j) ++ (tmRow t ++ tms (K0.due.drop j)) := by
  unfold ins insAt
  rw [h, tms_append]
  rfl
theorem wpList_delete_Mp0 {ops : Array Oper} {rest : List Oper} {o : Oper} {a : Act} {Q : Exit → Act → World → Prop} (w : World) (hg : o.guard = none) (hd : o.dst = none) (m x : Operand) (hop : o.op = Op.call { callee := Callee.builtin Builtin.delete, args := #[m, x], argTypes := #[53, 3] }) {mb cnt sz : Nat} {d : Int → Nat} (h : Mp w mb cnt d sz) (hm : a.eval m = .map (some mb)) {id : Int} (hx : a.eval x = .int .i64 id) (hw : (Lit.int .i64 id).wf = true)
    (hK : ∀ w', Mp w' mb cnt (fun i => if i = id then 0 else d i) (if d id = 0 then sz else sz - 1) → Kept [mb] w w' → wpList Try.prog ops Q rest a w') : wpList Try.prog ops Q (o :: rest) a w := by
  refine wpList_delete_Mp w hg m x hop h hm hx hw fun w' h1 h2 => ?_
  rw [hd]
  exact hK w' h1 h2
theorem Ok.turned {now : Nat} {d : Int → Nat} {sl : Nat → List Tm} (h : Ok 1000000 sl) : Ok 32000000 (turned now d sl) := by
  rw [← part_zero]
  have h5 := h.lvl (now := now) (d := d) (q := 1048576) (p := 80) (by omega)
  have h4 := h5.lvl (now := now) (d := d) (q := 65536) (p := 64 + now / 65536 % 16) (by omega)
  have h3 := h4.lvl (now := now) (d := d) (q := 4096) (p := 48 + now / 4096 % 16) (by omega)
  have h2 := h3.lvl (now := now) (d := d) (q := 256) (p := 32 + now / 256 % 16) (by omega)
  exact h2.lvl (now := now) (d := d) (q := 16) (p := 16 + now / 16 % 16) (by omega)
theorem Wh.in_lt {w : World} {b mb now n cnt sz : Nat} {d : Int → Nat} {vs : Nat → Value} {sl : Nat → List Tm} (h : Wh w b mb now n cnt d sz vs sl) (k : Nat) (hk : Wh.In b mb vs k) : k < w.heap.size := by
  rcases hk with rfl | rfl | ⟨i, hi, hk⟩
  · obtain ⟨cs, h0, _⟩ := h.blk; exact lt_of_blk h0
  · exact h.map.lt
  · exact ((h.own i hi).lt k hk).2
def tkAt (d : Int → Nat) (sz : Nat) (l : List Tm) (i : Nat) : Tk := (l.take i).foldl Tk.step ⟨d, sz, []⟩
/-- What stands ahead of round i of Tick's first loop. -/
structure Tick1 (w3 : World) (b mb m n cnt : Nat) (d : Int → Nat) (sz : Nat) (vs : Nat → Value) (sl : Nat → List Tm) (l : List Tm) (i : Nat) (dv : Value) (wr : World) : Prop where
  wh : Wh wr b mb m n cnt (tkAt d sz l i).d (tkAt d sz l i).sz vs sl
  kept : Kept [mb] w3 wr
  own : Own w3.heap.size 61 3 wr dv (tkAt d sz l i).due.length (tms (tkAt d sz l i).due)
  nil : (tkAt d sz l i).due = [] → dv = .slice none 0 0
  len : (tkAt d sz l i).due.length ≤ i
set_option maxRecDepth 100000 in
set_option maxHeartbeats 4000000 in
theorem tick_any {w : World} {b mb now n cnt sz : Nat} {d : Int → Nat} {vs : Nat → Value} {sl : Nat → List Tm} (h : Wh w b mb now n cnt d sz vs sl) (hn : now < 1152921504606846976) (hok : Ok 1000000 sl) :
    Calls Try.prog 21 #[.pointer (some ⟨b, 0, none⟩)] w (TickPost w b mb now n cnt d sz vs sl) := by
  have c0 := h.c0
  have f0 := h.fr 0
  have hni : ¬ (1152921504606846976 : Int) ≤ (now : Int) := by omega
  have hni2 : (now : Int) + 1 ≤ 1152921504606846976 := by omega
  have HOK := hid hok
  have hcast : ((now + 1 : Nat) : Int) = (now : Int) + 1 := by omega
  have h1 := h.setNow (now + 1)
  rw [hcast] at h1
  have H1 := hid h1
  have HK1 := hid ((Kept.refl [b] w).setCell (p := ⟨b, 0, none⟩) (by simp) (.int .u64 ((now : Int) + 1)))
  have HC := hid hcast
  clear h h1 hok hcast
  go_enter Try.func21, Try.ntmps21
  go_wp2_with fail
  refine (turn_any H1.out (by omega) HOK.out).mono ?_
  rintro e w2 ⟨⟨v2, rfl⟩, vs2, h2, ht2⟩
  have HT2 := hid (Turned.first ht2 HK1.out (fun k hk => by simp at hk; exact .inl (.inl hk)))
  obtain ⟨m, hm⟩ : ∃ m, m = now + 1 := ⟨_, rfl⟩
  have hm1 : m ≤ 1152921504606846976 := by omega
  rw [← hm] at h2
  have HM := hid hm
  have d0 := h2.c0
  obtain ⟨p, hp⟩ : ∃ p, p = m % 16 := ⟨_, rfl⟩
  have hp81 : p < 81 := by omega
  have hp16 : (m : Int) % 16 = (p : Int) := by omega
  have hc := h2.cs p hp81
  have hfz := h2.fr (3 + p)
  obtain ⟨hWc, hTc, hOc, hNc⟩ := h2.clear hp81
  obtain ⟨l, hl⟩ : ∃ l, l = turned m d sl p := ⟨_, rfl⟩
  obtain ⟨sa, scap, hv, hcap, hmax⟩ := (h2.own p hp81).form
  unfold maxLen at hmax
  rw [← hl] at hv hcap hOc
  rw [hv] at hc hOc hNc
  have hokt := Ok.turned (now := m) (d := d) HOK.out
  have hlen : l.length ≤ 32000000 := by rw [hl]; exact hokt.len p hp81
  have hwl : ∀ t ∈ l, (Lit.int .i64 t.id).wf = true := by rw [hl]; exact fun t ht => (hokt.mem p hp81 t ht).1
  clear hokt
  have HL := hid hl
  have HLEN := hid hlen
  have HWL := hid hwl
  have HHIN := hid (hWc.in_lt)
  have HWc := hid hWc
  have HTc := hid hTc
  have HOc := hid hOc
  have HNc := hid hNc
  have HP := hid hp
  clear h2 ht2 H1 HK1 c0 f0 hm hp hl hWc hTc hOc hNc hv hwl
  go_wp2
  go_quiet (fail)
  go_wp2
  obtain ⟨w3, hw3⟩ : ∃ w3, w3 = (w2.drewN nq).setCell ⟨b, 3 + p, none⟩ (.slice none 0 0) := ⟨_, rfl⟩
  rw [← hw3]
  have hk3 : Sim (w2.setCell ⟨b, 3 + p, none⟩ (.slice none 0 0)) w3 := by subst hw3; exact ⟨rfl, rfl, rfl, rfl⟩
  have HS3 := hid hk3
  clear hw3 hk3 d0 hc hfz hp16
  go_loopw [6, 8, 9, 46] (fun dv u1 u2 iv wr => ∃ i : Nat, i ≤ l.length ∧ iv = .int .i64 (i : Int) ∧ Tick1 w3 b mb m n cnt d sz (upd vs2 p (.slice none 0 0)) (upd (turned m d sl) p []) l i dv wr) (fun _ _ _ iv _ => l.length - (intOf iv).toNat)
  case atStart => 
    have hk := HS3.out.kept (Kept.refl [] _)
    exact ⟨0, by omega, rfl, ⟨(HWc.out.still hk), Kept.refl _ _, Own.nil _ _ _ _, fun _ => rfl, Nat.le_refl _⟩⟩
  case round =>
    obtain ⟨i, hi, rfl, hr⟩ := hrel
    obtain ⟨da, dcap, rfl, hdcap, hdmax⟩ := hr.own.form
    unfold maxLen at hdmax
    have hdlen := hr.len
    by_cases hlt : i < l.length
    · have ho2 := (HOc.out.kept (HS3.out.kept (Kept.refl [] _)) (not_in_nil _)).kept hr.kept (fun k hk hm => by simp at hm; subst hm; exact HNc.out _ hk (.inr (.inl rfl)))
      obtain ⟨g, off, rfl, _, hcell⟩ := ho2.at (by omega : 0 < l.length)
      have cell3 : ∀ jj, jj < 3 → wr.cell? ⟨g, off + i * 3 + jj, none⟩ = (tmRow l[i])[jj]? := by
        intro jj hjj
        have hi2 : i * 3 + jj < (tms l).length := by rw [tms_length]; omega
        rw [show off + i * 3 + jj = off + (i * 3 + jj) by omega, hcell _ hi2, ← List.getElem?_eq_getElem hi2, tms_get l i hlt jj hjj]
      have hwf := HWL.out _ (List.getElem_mem hlt)
      have htake : tkAt d sz l (i + 1) = (tkAt d sz l i).step l[i] := by unfold tkAt; rw [List.take_succ_eq_append_getElem hlt, List.foldl_append]; rfl
      generalize l[i] = t at *
      have e0 := cell3 0 (by omega)
      have e1 := cell3 1 (by omega)
      have e2 := cell3 2 (by omega)
      simp only [tmRow, List.getElem?_cons_zero, List.getElem?_cons_succ, Nat.add_zero] at e0 e1 e2
      have hal := kept_new (w := wr) (.cells #[.int .u64 (t.due : Int), .int .i64 t.id, .int .u64 (t.n : Int)] 61)
      have h1 := hr.wh.still hal
      have c2 := h1.c2
      have HR := hid hr
      have HTK := hid htake
      have HWF := hid hwf
      obtain ⟨K0, hK0⟩ : ∃ K0, K0 = tkAt d sz l i := ⟨_, rfl⟩
      rw [← hK0] at h1 hdcap hdlen ⊢
      have hlook := fun m => (h1.still (Kept.drewN [] _ m)).map.look hwf
      have H1 := hid h1
      have HK0 := hid hK0
      have hlti : (i : Int) < (l.length : Int) := by omega
      clear hr ho2 hcell cell3 hwf htake hal h1 hK0
      by_cases hd : K0.d t.id = t.n
      · have hdi : ((K0.d t.id : Int) == (t.n : Int)) = true := by simp; omega
        have HD := hid hd
        clear hd
        go_wp2
        go_quiet (fail)
        go_wp2
        refine wp_region_quiet_tail 6 (by kernel_rfl) (by kernel_rfl) ?_
        simp only [List.take_succ_cons, List.take_zero, List.drop_succ_cons, List.drop_zero]
        repeat (go_big_quiet_step (fail))
        refine wpQuiet_nil ?_
        refine wpList_delete_Mp0 _ rfl rfl (.tmp 63) (.tmp 65) rfl (H1.out.map.kept (Kept.drewN [] _ (nq + 1)) (by simp)) rfl rfl HWF.out ?_
        intro w5 hm5 hk5
        have hk4 : Kept [] wr (((wr.alloc (.cells #[.int .u64 (t.due : Int), .int .i64 t.id, .int .u64 (t.n : Int)] 61)).drewN nq).drew) := ((Kept.refl _ _).alloc _).trans ⟨rfl, rfl, rfl, Nat.le_refl _, fun _ _ _ => rfl⟩
        have hk5 : Kept [mb] (((wr.alloc (.cells #[.int .u64 (t.due : Int), .int .i64 t.id, .int .u64 (t.n : Int)] 61)).drewN nq).drew) w5 := ⟨hk5.os, hk5.tape, hk5.output, hk5.size, hk5.block⟩
        have hmbl : mb < wr.heap.size := HR.out.wh.map.lt
        have hmb3 : mb < w3.heap.size := Nat.lt_of_lt_of_le HWc.out.map.lt (by rw [HS3.out.heap]; exact Nat.le_refl _)
        have hbox : w5.heap[wr.heap.size]? = some (.cells #[.int .u64 (t.due : Int), .int .i64 t.id, .int .u64 (t.n : Int)] 61 (0, 0)) := hk5.blk (blk_alloc_new wr _) (by simp; omega)
        have g0 : w5.cell? ⟨wr.heap.size, 0, none⟩ = some (.int .u64 (t.due : Int)) := (cell_of hbox).trans rfl
        have g1 : w5.cell? ⟨wr.heap.size, 1, none⟩ = some (.int .i64 t.id) := (cell_of hbox).trans rfl
        have g2 : w5.cell? ⟨wr.heap.size, 2, none⟩ = some (.int .u64 (t.n : Int)) := (cell_of hbox).trans rfl
        have hkk : Kept [mb] wr w5 := (hk4.mono (by simp)).trans hk5
        have hW5 : Wh w5 b mb m n cnt (K0.step t).d (K0.step t).sz (upd vs2 p (.slice none 0 0)) (upd (turned m d sl) p []) := by
          have := (H1.out.still (Kept.drewN [] _ (nq + 1))).mapped (hk5 : Kept [mb] _ w5) hm5
          unfold Tk.step
          rw [if_pos HD.out]
          exact this
        have hO5 : Own w3.heap.size 61 3 w5 (.slice da K0.due.length dcap) K0.due.length (tms K0.due) := by
          have h6 := HR.out.own
          rw [← HK0.out] at h6
          exact h6.kept hkk (fun k hk hm => by simp at hm; subst hm; have := (h6.lt k hk).1; omega)
        have hnil5 : K0.due = [] → Value.slice da K0.due.length dcap = .slice none 0 0 := by have := HR.out.nil; rw [← HK0.out] at this; exact this
        have hK5' : Kept [mb] w3 w5 := HR.out.kept.trans hkk
        have HIN := hid (fun k hk => by have h2 := HHIN.out k hk; rw [HS3.out.heap]; exact h2 : ∀ k, Wh.In b mb (upd vs2 p (.slice none 0 0)) k → k < w3.heap.size)
        have HW5 := hid hW5
        have HO5 := hid hO5
        have HNIL5 := hid hnil5
        have HK5 := hid hK5'
        have HBOX := hid hbox
        have HTKD := hid (by rw [HTK.out, ← HK0.out]; unfold Tk.step; rw [if_pos HD.out] : (tkAt d sz l (i + 1)).due = ins K0.due t)
        have HTKW := hid (by rw [HTK.out, ← HK0.out] : tkAt d sz l (i + 1) = K0.step t)
        clear hm5 hk5 hk4 hbox hkk hW5 hO5 hnil5 hK5' HR H1
        go_wp2
        go_loopw [9] (fun jv wr2 => ∃ j kd : Nat, j ≤ K0.due.length ∧ seek K0.due t.n K0.due.length = seek K0.due t.n j ∧ jv = .int .i64 (j : Int) ∧ wr2 = w5.drewN kd) (fun jv _ => (intOf jv).toNat)
        case atStart => exact ⟨K0.due.length, 0, Nat.le_refl _, rfl, rfl, rfl⟩
        case round =>
          obtain ⟨j, kd, hj, hsk, rfl, rfl⟩ := hrel
          have HSK := hid hsk
          clear hsk
          by_cases hgt : ∃ x, 0 < j ∧ K0.due[j - 1]? = some x ∧ t.n < x.n
          · obtain ⟨x, hj0, hget, hgt⟩ := hgt
            obtain ⟨hlj, hxe⟩ := List.getElem?_eq_some_iff.1 hget
            have HSK2 := hid (HSK.out.trans (by have := seek_gt hget hgt; rwa [show j - 1 + 1 = j by omega] at this) : seek K0.due t.n K0.due.length = seek K0.due t.n (j - 1))
            obtain ⟨g', off', rfl, _, hcell⟩ := HO5.out.at (by omega : 0 < K0.due.length)
            have hcl : w5.cell? ⟨g', off' + (j - 1) * 3 + 2, none⟩ = some (.int .u64 (x.n : Int)) := by
              have hi2 : (j - 1) * 3 + 2 < (tms K0.due).length := by rw [tms_length]; omega
              rw [show off' + (j - 1) * 3 + 2 = off' + ((j - 1) * 3 + 2) by omega, hcell _ hi2, ← List.getElem?_eq_getElem hi2, tms_get K0.due (j - 1) hlj 2 (by omega), hxe]; rfl
            obtain ⟨j1, hj1⟩ : ∃ j1, j1 = j - 1 := ⟨_, rfl⟩
            rw [← hj1] at hcl hlj HSK2
            have hji : (j : Int) - 1 = (j1 : Int) := by omega
            have hj1i : (1 : Int) ≤ (j : Int) := by omega
            have hj0i : (0 : Int) < (j : Int) := by omega
            have hjm : (j : Int) ≤ 32000000 := by omega
            have hgti : (t.n : Int) < (x.n : Int) := by omega
            have hlji : (j1 : Int) < (K0.due.length : Int) := by omega
            have HJ := hid hj1
            clear hget hxe hcell hj1
            go_wp2
            go_quiet (fail)
            go_wp2_with fail
            go_roundw
            case rel => exact ⟨j1, kd + nq, by omega, HSK2.out, by go_num, rfl⟩
            case measure => simp [intOf]; have := HJ.out; omega
          · have HQ : Hid (seek K0.due t.n K0.due.length = j) := hid (by
              rw [HSK.out]
              cases j with
              | zero => rfl
              | succ j =>
                have hlj : j < K0.due.length := by omega
                exact seek_stop (List.getElem?_eq_getElem hlj) (fun hx => hgt ⟨_, by omega, List.getElem?_eq_getElem hlj, hx⟩))
            have hjm : (j : Int) ≤ 32000000 := by omega
            have hjd : (j : Int) ≤ (dcap : Int) := by omega
            have hjd2 : j ≤ dcap := by omega
            have hjl : (j : Int) ≤ (K0.due.length : Int) := by omega
            by_cases hj0 : 0 < j
            · have hj0i : (0 : Int) < (j : Int) := by omega
              have hj1i : (1 : Int) ≤ (j : Int) := by omega
              have hlj : j - 1 < K0.due.length := by omega
              obtain ⟨g', off', rfl, _, hcell⟩ := HO5.out.at (by omega : 0 < K0.due.length)
              have hle : ¬ (t.n : Int) < (K0.due[j - 1].n : Int) := fun h => hgt ⟨_, hj0, List.getElem?_eq_getElem hlj, by omega⟩
              have hcl : w5.cell? ⟨g', off' + (j - 1) * 3 + 2, none⟩ = some (.int .u64 (K0.due[j - 1].n : Int)) := by
                have hi2 : (j - 1) * 3 + 2 < (tms K0.due).length := by rw [tms_length]; omega
                rw [show off' + (j - 1) * 3 + 2 = off' + ((j - 1) * 3 + 2) by omega, hcell _ hi2, ← List.getElem?_eq_getElem hi2, tms_get K0.due (j - 1) hlj 2 (by omega)]; rfl
              obtain ⟨xn, hxn⟩ : ∃ xn, xn = K0.due[j - 1].n := ⟨_, rfl⟩
              rw [← hxn] at hcl hle
              obtain ⟨j1, hj1⟩ : ∃ j1, j1 = j - 1 := ⟨_, rfl⟩
              rw [← hj1] at hcl hlj
              have hji : (j : Int) - 1 = (j1 : Int) := by omega
              have hlji : (j1 : Int) < (K0.due.length : Int) := by omega
              have hleN : decide (t.n < xn) = false := by simp; omega
              clear hcell hj1 hgt hxn
              go_wp2
              go_quiet (fail)
              clear hcl hle hleN hji hlj hlji hj1i
              go_wp2
              have HJ := hid (by omega : j ≤ K0.due.length)
              have hg3 : w3.heap.size ≤ g' ∧ g' < w5.heap.size := HO5.out.lt g' rfl
              have HG3 := hid hg3
              have h35 := HK5.out.size
              have HS7 := hid (fun k hk hm => by have := HIN.out k hm; simp at hk; omega : ∀ k ∈ [w5.heap.size, g'], ¬ Wh.In b mb (upd vs2 p (.slice none 0 0)) k)
              have HS8 := hid (fun k hk hlt => by simp at hk; omega : ∀ k ∈ [w5.heap.size, g'], k < w3.heap.size → False)
              clear hg3 h35
              by_cases hcut : dcap = j
              · have hdl : K0.due.length - j = 0 := by omega
                have hdr : K0.due.drop j = [] := List.drop_eq_nil_of_le (by omega)
                subst hcut
                go_region_law (first | (refine step_append_Own rfl (.tmp 87) (.tmp 90) 54 rfl w5.heap.size 61 (.agg #[.int .u64 0, .int .i64 0, .int .u64 0]) 3 24 Try.underlying54 (by kernel_rfl) rfl (by decide) (.slice (some ⟨w5.heap.size, 0, none⟩) 1 1) 1 (tmRow t) (by simp [Act.eval, Act.put]) (by exact own_lit3 (w5.drewN _) t) ⟨g', off', none⟩ 0 0 [] (by simp [Act.eval, Act.put]) rfl (by intro j u h; simp at h) (by simp) (by unfold maxLen; omega) (by omega) (by simp) ?_; intro v1 w6 hO1 hG1 hT1; rw [List.append_nil] at hO1; obtain ⟨g1, off1, cap1, hv1, hcap1, hc1⟩ := hO1.some3 (by omega); subst hv1; have HK6 := hid ((⟨rfl, rfl, rfl, by simp, fun k hk _ => Below.heap_alloc _ _ _ hk⟩ : Kept [w5.heap.size] w5 ((w5.drewN 0).alloc (.cells #[.int .u64 (t.due : Int), .int .i64 t.id, .int .u64 (t.n : Int)] 61))).grown (w' := w6) ⟨hG1.os, hG1.tape, hG1.output, hG1.size, hG1.block⟩ (fun k hk _ => by cases hk; simp)); have HC1 := hid hc1; clear hO1 hG1 hT1 hc1) | (refine step_append_Own rfl (.tmp 85) (.tmp 91) 54 rfl w3.heap.size 61 (.agg #[.int .u64 0, .int .i64 0, .int .u64 0]) 3 24 Try.underlying54 (by kernel_rfl) rfl (by decide) (.slice (some ⟨g', off', none⟩) dcap dcap) dcap (tms (K0.due.take dcap)) (by simp [Act.eval, Act.put]) (by rw [tms_take]; exact (HO5.out.kept HK6.out (fun k hk hm => by have := (HO5.out.lt k hk).2; simp at hm; omega)).takeN HJ.out) ⟨g1, off1, none⟩ 1 cap1 (tmRow t) (by simp [Act.eval, Act.put]) rfl HC1.out (tmRow_one t) (by unfold maxLen; omega) (by omega) (by have h1 := HK6.out.size; have h2 := HK5.out.size; omega) ?_; intro v2 w7 hO2 hG2 hT2; have HK7 := hid ((HK6.out.mono (S' := [w5.heap.size, g']) (by simp)).grown hG2 (fun k hk _ => by cases hk; simp)); have HO7 := hid (by rw [ins_length, tick_ins K0 t dcap HQ.out]; rw [hdr]; have := HJ.out; rw [show dcap + 1 = K0.due.length + 1 by omega] at hO2; exact hO2 : Own w3.heap.size 61 3 w7 v2 (ins K0.due t).length (tms (ins K0.due t))); clear hO2 hG2 hT2))
                go_wp2_with fail
                go_roundw
                case rel =>
                  have h7 := HW5.out.kept HK7.out (HS7.out)
                  exact ⟨i + 1, by omega, by go_num, ⟨by rw [HTKW.out]; exact h7, HK5.out.join HK7.out (fun k hk hlt => (HS8.out k hk hlt).elim), by rw [HTKD.out]; exact HO7.out, fun h => by rw [HTKD.out] at h; have := congrArg List.length h; rw [ins_length] at this; simp at this, by rw [HTKD.out, ins_length]; omega⟩⟩
                case measure => simp [intOf]; omega
              · go_region_law (first | (refine step_append_Own rfl (.tmp 87) (.tmp 90) 54 rfl w5.heap.size 61 (.agg #[.int .u64 0, .int .i64 0, .int .u64 0]) 3 24 Try.underlying54 (by kernel_rfl) rfl (by decide) (.slice (some ⟨w5.heap.size, 0, none⟩) 1 1) 1 (tmRow t) (by simp [Act.eval, Act.put]) (by exact own_lit3 (w5.drewN _) t) ⟨g', off' + j * 3, none⟩ (K0.due.length - j) (dcap - j) (tms (K0.due.drop j)) (by simp [Act.eval, Act.put]) (by rw [tms_length, List.length_drop]) (by rw [tms_drop]; exact HO5.out.cellsIn j ⟨rfl, rfl, rfl, by simp, fun k hk _ => Below.heap_alloc _ _ _ hk⟩) (tms_one _) (by unfold maxLen; omega) (by omega) (by simp) ?_; intro v1 w6 hO1 hG1 hT1; obtain ⟨g1, off1, cap1, hv1, hcap1, hc1⟩ := hO1.some3 (by omega); subst hv1; have HK6 := hid ((⟨rfl, rfl, rfl, by simp, fun k hk _ => Below.heap_alloc _ _ _ hk⟩ : Kept [w5.heap.size] w5 ((w5.drewN 0).alloc (.cells #[.int .u64 (t.due : Int), .int .i64 t.id, .int .u64 (t.n : Int)] 61))).grown (w' := w6) ⟨hG1.os, hG1.tape, hG1.output, hG1.size, hG1.block⟩ (fun k hk _ => by cases hk; simp)); have HC1 := hid hc1; clear hO1 hG1 hT1 hc1) | (refine step_append_Own rfl (.tmp 85) (.tmp 91) 54 rfl w3.heap.size 61 (.agg #[.int .u64 0, .int .i64 0, .int .u64 0]) 3 24 Try.underlying54 (by kernel_rfl) rfl (by decide) (.slice (some ⟨g', off', none⟩) j dcap) j (tms (K0.due.take j)) (by simp [Act.eval, Act.put]) (by rw [tms_take]; exact (HO5.out.kept HK6.out (fun k hk hm => by have := (HO5.out.lt k hk).2; simp at hm; omega)).takeN HJ.out) ⟨g1, off1, none⟩ (1 + (K0.due.length - j)) cap1 (tmRow t ++ tms (K0.due.drop j)) (by simp [Act.eval, Act.put]) (by rw [List.length_append, tms_length, List.length_drop]; simp only [tmRow, List.length_cons, List.length_nil]; omega) HC1.out (fun u hu => (List.mem_append.1 hu).elim (tmRow_one t u) (tms_one _ u)) (by unfold maxLen; omega) (by omega) (by have h1 := HK6.out.size; have h2 := HK5.out.size; omega) ?_; intro v2 w7 hO2 hG2 hT2; have HK7 := hid ((HK6.out.mono (S' := [w5.heap.size, g']) (by simp)).grown hG2 (fun k hk _ => by cases hk; simp)); have HO7 := hid (by rw [ins_length, tick_ins K0 t j HQ.out]; rw [show j + (1 + (K0.due.length - j)) = K0.due.length + 1 by have := HJ.out; omega] at hO2; exact hO2 : Own w3.heap.size 61 3 w7 v2 (ins K0.due t).length (tms (ins K0.due t))); clear hO2 hG2 hT2))
                go_wp2_with fail
                go_roundw
                case rel =>
                  have h7 := HW5.out.kept HK7.out (HS7.out)
                  exact ⟨i + 1, by omega, by go_num, ⟨by rw [HTKW.out]; exact h7, HK5.out.join HK7.out (fun k hk hlt => (HS8.out k hk hlt).elim), by rw [HTKD.out]; exact HO7.out, fun h => by rw [HTKD.out] at h; have := congrArg List.length h; rw [ins_length] at this; simp at this, by rw [HTKD.out, ins_length]; omega⟩⟩
                case measure => simp [intOf]; omega
            · have hj0i : decide ((0 : Int) < (j : Int)) = false := by simp; omega
              have hj0j : ¬ (0 : Int) < (j : Int) := by omega
              go_wp2
              go_quiet (fail)
              go_wp2
              clear hj0i hgt
              by_cases hne : 0 < K0.due.length
              · obtain ⟨g', off', rfl, _, _⟩ := HO5.out.at hne
                have HJ := hid (by omega : j ≤ K0.due.length)
                have hg3 : w3.heap.size ≤ g' ∧ g' < w5.heap.size := HO5.out.lt g' rfl
                have HG3 := hid hg3
                have h35 := HK5.out.size
                have HS7 := hid (fun k hk hm => by have := HIN.out k hm; simp at hk; omega : ∀ k ∈ [w5.heap.size, g'], ¬ Wh.In b mb (upd vs2 p (.slice none 0 0)) k)
                have HS8 := hid (fun k hk hlt => by simp at hk; omega : ∀ k ∈ [w5.heap.size, g'], k < w3.heap.size → False)
                clear hg3 h35
                by_cases hcut : dcap = j
                · have hdl : K0.due.length - j = 0 := by omega
                  have hdr : K0.due.drop j = [] := List.drop_eq_nil_of_le (by omega)
                  subst hcut
                  go_region_law (first | (refine step_append_Own rfl (.tmp 87) (.tmp 90) 54 rfl w5.heap.size 61 (.agg #[.int .u64 0, .int .i64 0, .int .u64 0]) 3 24 Try.underlying54 (by kernel_rfl) rfl (by decide) (.slice (some ⟨w5.heap.size, 0, none⟩) 1 1) 1 (tmRow t) (by simp [Act.eval, Act.put]) (by exact own_lit3 (w5.drewN _) t) ⟨g', off', none⟩ 0 0 [] (by simp [Act.eval, Act.put]) rfl (by intro j u h; simp at h) (by simp) (by unfold maxLen; omega) (by omega) (by simp) ?_; intro v1 w6 hO1 hG1 hT1; rw [List.append_nil] at hO1; obtain ⟨g1, off1, cap1, hv1, hcap1, hc1⟩ := hO1.some3 (by omega); subst hv1; have HK6 := hid ((⟨rfl, rfl, rfl, by simp, fun k hk _ => Below.heap_alloc _ _ _ hk⟩ : Kept [w5.heap.size] w5 ((w5.drewN 0).alloc (.cells #[.int .u64 (t.due : Int), .int .i64 t.id, .int .u64 (t.n : Int)] 61))).grown (w' := w6) ⟨hG1.os, hG1.tape, hG1.output, hG1.size, hG1.block⟩ (fun k hk _ => by cases hk; simp)); have HC1 := hid hc1; clear hO1 hG1 hT1 hc1) | (refine step_append_Own rfl (.tmp 85) (.tmp 91) 54 rfl w3.heap.size 61 (.agg #[.int .u64 0, .int .i64 0, .int .u64 0]) 3 24 Try.underlying54 (by kernel_rfl) rfl (by decide) (.slice (some ⟨g', off', none⟩) dcap dcap) dcap (tms (K0.due.take dcap)) (by simp [Act.eval, Act.put]) (by rw [tms_take]; exact (HO5.out.kept HK6.out (fun k hk hm => by have := (HO5.out.lt k hk).2; simp at hm; omega)).takeN HJ.out) ⟨g1, off1, none⟩ 1 cap1 (tmRow t) (by simp [Act.eval, Act.put]) rfl HC1.out (tmRow_one t) (by unfold maxLen; omega) (by omega) (by have h1 := HK6.out.size; have h2 := HK5.out.size; omega) ?_; intro v2 w7 hO2 hG2 hT2; have HK7 := hid ((HK6.out.mono (S' := [w5.heap.size, g']) (by simp)).grown hG2 (fun k hk _ => by cases hk; simp)); have HO7 := hid (by rw [ins_length, tick_ins K0 t dcap HQ.out]; rw [hdr]; have := HJ.out; rw [show dcap + 1 = K0.due.length + 1 by omega] at hO2; exact hO2 : Own w3.heap.size 61 3 w7 v2 (ins K0.due t).length (tms (ins K0.due t))); clear hO2 hG2 hT2))
                  go_wp2_with fail
                  go_roundw
                  case rel =>
                    have h7 := HW5.out.kept HK7.out (HS7.out)
                    exact ⟨i + 1, by omega, by go_num, ⟨by rw [HTKW.out]; exact h7, HK5.out.join HK7.out (fun k hk hlt => (HS8.out k hk hlt).elim), by rw [HTKD.out]; exact HO7.out, fun h => by rw [HTKD.out] at h; have := congrArg List.length h; rw [ins_length] at this; simp at this, by rw [HTKD.out, ins_length]; omega⟩⟩
                  case measure => simp [intOf]; omega
                · go_region_law (first | (refine step_append_Own rfl (.tmp 87) (.tmp 90) 54 rfl w5.heap.size 61 (.agg #[.int .u64 0, .int .i64 0, .int .u64 0]) 3 24 Try.underlying54 (by kernel_rfl) rfl (by decide) (.slice (some ⟨w5.heap.size, 0, none⟩) 1 1) 1 (tmRow t) (by simp [Act.eval, Act.put]) (by exact own_lit3 (w5.drewN _) t) ⟨g', off' + j * 3, none⟩ (K0.due.length - j) (dcap - j) (tms (K0.due.drop j)) (by simp [Act.eval, Act.put]) (by rw [tms_length, List.length_drop]) (by rw [tms_drop]; exact HO5.out.cellsIn j ⟨rfl, rfl, rfl, by simp, fun k hk _ => Below.heap_alloc _ _ _ hk⟩) (tms_one _) (by unfold maxLen; omega) (by omega) (by simp) ?_; intro v1 w6 hO1 hG1 hT1; obtain ⟨g1, off1, cap1, hv1, hcap1, hc1⟩ := hO1.some3 (by omega); subst hv1; have HK6 := hid ((⟨rfl, rfl, rfl, by simp, fun k hk _ => Below.heap_alloc _ _ _ hk⟩ : Kept [w5.heap.size] w5 ((w5.drewN 0).alloc (.cells #[.int .u64 (t.due : Int), .int .i64 t.id, .int .u64 (t.n : Int)] 61))).grown (w' := w6) ⟨hG1.os, hG1.tape, hG1.output, hG1.size, hG1.block⟩ (fun k hk _ => by cases hk; simp)); have HC1 := hid hc1; clear hO1 hG1 hT1 hc1) | (refine step_append_Own rfl (.tmp 85) (.tmp 91) 54 rfl w3.heap.size 61 (.agg #[.int .u64 0, .int .i64 0, .int .u64 0]) 3 24 Try.underlying54 (by kernel_rfl) rfl (by decide) (.slice (some ⟨g', off', none⟩) j dcap) j (tms (K0.due.take j)) (by simp [Act.eval, Act.put]) (by rw [tms_take]; exact (HO5.out.kept HK6.out (fun k hk hm => by have := (HO5.out.lt k hk).2; simp at hm; omega)).takeN HJ.out) ⟨g1, off1, none⟩ (1 + (K0.due.length - j)) cap1 (tmRow t ++ tms (K0.due.drop j)) (by simp [Act.eval, Act.put]) (by rw [List.length_append, tms_length, List.length_drop]; simp only [tmRow, List.length_cons, List.length_nil]; omega) HC1.out (fun u hu => (List.mem_append.1 hu).elim (tmRow_one t u) (tms_one _ u)) (by unfold maxLen; omega) (by omega) (by have h1 := HK6.out.size; have h2 := HK5.out.size; omega) ?_; intro v2 w7 hO2 hG2 hT2; have HK7 := hid ((HK6.out.mono (S' := [w5.heap.size, g']) (by simp)).grown hG2 (fun k hk _ => by cases hk; simp)); have HO7 := hid (by rw [ins_length, tick_ins K0 t j HQ.out]; rw [show j + (1 + (K0.due.length - j)) = K0.due.length + 1 by have := HJ.out; omega] at hO2; exact hO2 : Own w3.heap.size 61 3 w7 v2 (ins K0.due t).length (tms (ins K0.due t))); clear hO2 hG2 hT2))
                  go_wp2_with fail
                  go_roundw
                  case rel =>
                    have h7 := HW5.out.kept HK7.out (HS7.out)
                    exact ⟨i + 1, by omega, by go_num, ⟨by rw [HTKW.out]; exact h7, HK5.out.join HK7.out (fun k hk hlt => (HS8.out k hk hlt).elim), by rw [HTKD.out]; exact HO7.out, fun h => by rw [HTKD.out] at h; have := congrArg List.length h; rw [ins_length] at this; simp at this, by rw [HTKD.out, ins_length]; omega⟩⟩
                  case measure => simp [intOf]; omega
              · have hl0 : K0.due.length = 0 := by omega
                have hnil : K0.due = [] := List.eq_nil_of_length_eq_zero hl0
                have hv := HNIL5.out hnil
                injection hv with hv1 hv2 hv3
                subst hv1
                subst hv3
                obtain rfl : j = 0 := by omega
                have HNL := hid hnil
                have h35 := HK5.out.size
                have HS7 := hid (fun k hk hm => by have := HIN.out k hm; simp at hk; omega : ∀ k ∈ [w5.heap.size], ¬ Wh.In b mb (upd vs2 p (.slice none 0 0)) k)
                have HS8 := hid (fun k hk hlt => by simp at hk; omega : ∀ k ∈ [w5.heap.size], k < w3.heap.size → False)
                have HINS := hid (by rw [hnil]; rfl : ins K0.due t = [t])
                clear hnil h35 hv2
                go_region_law (first | (refine step_append_none rfl (.tmp 87) (.tmp 90) 54 rfl 61 (.agg #[.int .u64 0, .int .i64 0, .int .u64 0]) 3 24 Try.underlying54 (by kernel_rfl) w5.heap.size 0 1 1 (by simp [Act.eval, Act.put]) (by omega) (by simp [Act.eval, Act.put]) ?_) | (refine step_append_Own rfl (.tmp 85) (.tmp 91) 54 rfl w3.heap.size 61 (.agg #[.int .u64 0, .int .i64 0, .int .u64 0]) 3 24 Try.underlying54 (by kernel_rfl) rfl (by decide) (.slice none 0 0) 0 [] (by simp [Act.eval, Act.put]) (Own.nil _ _ _ _) ⟨w5.heap.size, 0, none⟩ 1 1 (tmRow t) (by simp [Act.eval, Act.put]) rfl (by exact cells_new_at (w5.drewN _) _ rfl _ _ _ rfl) (tmRow_one t) (by unfold maxLen; omega) (by omega) (by have h2 := HK5.out.size; simp; omega) ?_; intro v2 w7 hO2 hG2 hT2; have HK7 := hid ((⟨rfl, rfl, rfl, by simp, fun k hk _ => Below.heap_alloc _ _ _ hk⟩ : Kept [w5.heap.size] w5 ((w5.drewN 0).alloc (.cells #[.int .u64 (t.due : Int), .int .i64 t.id, .int .u64 (t.n : Int)] 61))).grown (w' := w7) ⟨hG2.os, hG2.tape, hG2.output, hG2.size, hG2.block⟩ (fun k hk _ => by cases hk)); have HO7 := hid (by rw [HINS.out]; exact hO2 : Own w3.heap.size 61 3 w7 v2 (ins K0.due t).length (tms (ins K0.due t))); clear hO2 hG2 hT2))
                go_wp2_with fail
                go_roundw
                case rel =>
                  have h7 := HW5.out.kept HK7.out (HS7.out)
                  exact ⟨i + 1, by omega, by go_num, ⟨by rw [HTKW.out]; exact h7, HK5.out.join HK7.out (fun k hk hlt => (HS8.out k hk hlt).elim), by rw [HTKD.out]; exact HO7.out, fun h => by rw [HTKD.out] at h; have := congrArg List.length h; rw [ins_length] at this; simp at this, by rw [HTKD.out, ins_length]; omega⟩⟩
                case measure => simp [intOf]; omega
      · have hdi : ((K0.d t.id : Int) == (t.n : Int)) = false := beq_eq_false_iff_ne.2 (by omega)
        have HD := hid hd
        clear hd
        go_wp2
        go_quiet (fail)
        go_wp2_with fail
        go_roundw
        case rel =>
          have e : tkAt d sz l (i + 1) = K0 := by rw [HTK.out, ← HK0.out]; unfold Tk.step; rw [if_neg HD.out]
          have hal := kept_new (w := wr) (.cells #[.int .u64 (t.due : Int), .int .i64 t.id, .int .u64 (t.n : Int)] 61)
          have hal2 := hal.trans (Kept.drewN [] _ nq)
          have h6 := HR.out
          have h7 := h6.own
          have h8 := h6.nil
          rw [← HK0.out] at h7 h8
          exact ⟨i + 1, by omega, by go_num, ⟨by rw [e]; exact H1.out.still (Kept.drewN [] _ nq), h6.kept.trans (hal2.mono (by simp)), by rw [e]; exact h7.kept hal2 (not_in_nil _), by rw [e]; exact h8, by rw [e]; omega⟩⟩
        case measure => simp [intOf]; omega
    · obtain rfl : i = l.length := by omega
      have hfull : tkAt d sz l l.length = tick d sz l := by unfold tkAt tick; rw [List.take_length]
      have HR := hid hr
      have HFU := hid hfull
      obtain ⟨K0, hK0⟩ : ∃ K0, K0 = tick d sz l := ⟨_, rfl⟩
      have HK0 := hid hK0
      rw [hfull, ← hK0] at hdcap hdlen
      rw [hfull, ← hK0]
      have hO0 := hr.own
      have hW0 := hr.wh
      rw [hfull, ← hK0] at hO0 hW0
      have HO0 := hid hO0
      have HW0 := hid hW0
      clear hr hfull hK0 hO0 hW0
      go_wp2
      obtain ⟨wo, rfl⟩ : ∃ wo : World, wo = wr := ⟨_, rfl⟩
      go_loopw [10, 12, 96] (fun ov u1 iv wr => ∃ q : Nat, q ≤ K0.due.length ∧ iv = .int .i64 (q : Int) ∧ OwnL wo.heap.size 3 wr ov (ids (K0.due.take q)) ∧ Kept [] wo wr) (fun _ _ iv _ => K0.due.length - (intOf iv).toNat)
      case atStart => exact ⟨0, by omega, rfl, OwnL.nil _ _ _, Kept.refl _ _⟩
      case round =>
        obtain ⟨q, hq, rfl, hOv, hKv⟩ := hrel
        by_cases hlt2 : q < K0.due.length
        · have ho2 := HO0.out.kept hKv (not_in_nil _)
          obtain ⟨g, off, rfl, _, hcell⟩ := ho2.at (by omega : 0 < K0.due.length)
          have cell3 : ∀ jj, jj < 3 → wr.cell? ⟨g, off + q * 3 + jj, none⟩ = (tmRow K0.due[q])[jj]? := by
            intro jj hjj
            have hi2 : q * 3 + jj < (tms K0.due).length := by rw [tms_length]; omega
            rw [show off + q * 3 + jj = off + (q * 3 + jj) by omega, hcell _ hi2, ← List.getElem?_eq_getElem hi2, tms_get K0.due q hlt2 jj hjj]
          have htake : ids (K0.due.take (q + 1)) = ids (K0.due.take q) ++ [.int .i64 K0.due[q].id] := by unfold ids; rw [List.take_succ_eq_append_getElem hlt2, List.map_append]; rfl
          have hlq : (ids (K0.due.take q)).length = q := by unfold ids; simp; omega
          obtain ⟨t, ht⟩ : ∃ t, t = K0.due[q] := ⟨_, rfl⟩
          rw [← ht] at cell3 htake
          have e0 := cell3 0 (by omega)
          have e1 := cell3 1 (by omega)
          have e2 := cell3 2 (by omega)
          simp only [tmRow, List.getElem?_cons_zero, List.getElem?_cons_succ, Nat.add_zero] at e0 e1 e2
          have hlti2 : (q : Int) < (K0.due.length : Int) := by omega
          have hal := kept_new (w := wr) (.cells #[.int .u64 (t.due : Int), .int .i64 t.id, .int .u64 (t.n : Int)] 61)
          have hOv2 := hOv.kept hal (not_in_nil _)
          obtain ⟨xa, xn, xc, hxv⟩ := hOv.form'
          subst hxv
          have HOv2 := hid hOv2
          have HTK := hid htake
          have HLQ := hid hlq
          have HKv := hid (hKv.trans hal)
          have hB : wo.heap.size ≤ wr.heap.size := hKv.size
          have HB := hid (by have := hal.size; omega : wo.heap.size ≤ (wr.alloc (.cells #[.int .u64 (t.due : Int), .int .i64 t.id, .int .u64 (t.n : Int)] 61)).heap.size)
          clear hOv hKv ho2 hcell cell3 htake hlq ht hal hOv2 hB
          go_wp2_with (at_builtin; refine wpList_append_L (wr.alloc (.cells #[.int .u64 (t.due : Int), .int .i64 t.id, .int .u64 (t.n : Int)] 61)) rfl (.tmp 100) (.tmp 103) 36 rfl wo.heap.size 3 _ (.int .i64 0) 8 Try.underlying36 (by kernel_rfl) rfl _ _ (.int .i64 t.id) rfl HOv2.out _ rfl (by simp) rfl (by rw [HLQ.out]; unfold maxLen; omega) (by rw [HLQ.out]; omega) HB.out ?_; intro v' w4 hown' hgrow hlie)
          have HO4 := hid (by rw [HTK.out]; exact hown' : OwnL wo.heap.size 3 w4 v' (ids (K0.due.take (q + 1))))
          have HK4 := hid (HKv.out.join (hgrow ((Value.slice xa xn xc).ownBlock.toList) (fun k hk => mem_own.2 hk)) (fun k hm hlt => by have := (HOv2.out.lt k (mem_own.1 hm)).1; omega) : Kept [] wo w4)
          clear hown' hgrow hlie
          go_wp2_with fail
          go_roundw
          case rel => exact ⟨q + 1, by omega, by go_num, HO4.out, HK4.out⟩
          case measure => simp [intOf]; omega
        · obtain rfl : q = K0.due.length := by omega
          rw [List.take_length] at hOv
          obtain ⟨xa, xn, xc, hxv⟩ := hOv.form'
          subst hxv
          have HOv := hid hOv
          have HKv := hid hKv
          clear hOv hKv
          go_wp2
          go_ret2
          have hsz3 := HR.out.kept.size
          have hs3 : w.heap.size ≤ w3.heap.size := by have h1 := HT2.out.size; have h2 := HTc.out.size; rw [HS3.out.heap]; omega
          have hT3 : Turned w b mb vs w3 (upd vs2 p (.slice none 0 0)) := (HT2.out.trans HTc.out).still (HS3.out.kept (Kept.refl _ _))
          have hTo : Turned w b mb vs wo (upd vs2 p (.slice none 0 0)) := hT3.trans ⟨[mb], HR.out.kept, fun k hk => by simp at hk; exact .inl (.inr (.inl hk)), fun k hk => .inl hk⟩
          unfold TickPost
          rw [← HM.out, ← HP.out, ← HL.out, ← HK0.out]
          refine ⟨_, _, rfl, ?_, fun k hk hm => ?_, HW0.out.still HKv.out, hTo.still HKv.out⟩
          · have h9 := HOv.out.base (base' := w.heap.size) (by omega)
            unfold OwnL at h9
            unfold ids at h9 ⊢
            rwa [List.length_map] at h9
          · have h8 := (HOv.out.lt k hk).1
            have h9 := HW0.out.in_lt k hm
            omega
end Go.Proofs.Ytkemkoiknoefdaa
