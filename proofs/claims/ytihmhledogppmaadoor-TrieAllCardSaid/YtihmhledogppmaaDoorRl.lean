/- The walk of levyref3.DropAs. -/
import Derived.Test.YtihmhledogppmaaDoorRe
namespace Go.Proofs.YtihmhledogppmaaDoor
open Go Go.RowKit
set_option linter.unusedVariables false
set_option linter.unusedSimpArgs false
attribute [local go_sem] Oper.semAt_some

/-- What DropAs has laid down behind k rounds. -/
def curD (l : List RE) (id k : Nat) : List RE := if k ≤ plR l id then l.take k else l.take (plR l id) ++ (l.take k).drop (plR l id + 1)
theorem curD_push {l : List RE} {id k : Nat} {e : RE} (he : l[k]? = some e) (h : k ≠ plR l id) : curD l id k ++ [e] = curD l id (k + 1) := by
  have hl := (List.getElem?_eq_some_iff.1 he).1
  unfold curD
  rcases Nat.lt_or_ge k (plR l id) with hlt | hge
  · rw [if_pos (by omega), if_pos (by omega), List.take_add_one, he]
    rfl
  · rw [if_neg (by omega), if_neg (by omega), List.take_add_one, he, List.append_assoc, List.drop_append_of_le_length (by simp; omega)]
    rfl
theorem curD_skip {l : List RE} {id : Nat} (h : plR l id < l.length) : curD l id (plR l id) = curD l id (plR l id + 1) := by
  unfold curD
  rw [if_pos (Nat.le_refl _), if_neg (by omega), List.drop_of_length_le (by simp; omega), List.append_nil]
theorem curD_end {l : List RE} {id : Nat} (h : plR l id < l.length) : curD l id l.length = l.take (plR l id) ++ l.drop (plR l id + 1) := by
  unfold curD
  rw [if_neg (by omega), List.take_length]
theorem curD_len (l : List RE) (id k : Nat) : (curD l id k).length ≤ l.length := by
  unfold curD
  split
  · simp; omega
  · simp; omega
theorem curD_ids {l : List RE} {id k : Nat} (hl : ∀ e ∈ l, e.id < 4294967296) : ∀ e ∈ curD l id k, e.id < 4294967296 := by
  unfold curD
  intro e he
  split at he
  · exact hl e (List.mem_of_mem_take he)
  · rcases List.mem_append.1 he with h | h
    · exact hl e (List.mem_of_mem_take h)
    · exact hl e (List.mem_of_mem_take (List.mem_of_mem_drop h))
set_option maxRecDepth 100000 in
set_option maxHeartbeats 8000000 in
theorem dropAs_r (b id : Nat) (x : Int) (l : List RE) (w : World) (h : RefAt w b l) (hid : id < 4294967296) (hl : l.length ≤ 1099511627776) :
    Calls Tryd.prog 41 #[.pointer (some ⟨b, 0, none⟩), .int .u32 (id : Nat), .int .i64 x] w fun e w' => ∃ b', e = .returned (.pointer (some ⟨b', 0, none⟩)) ∧ RefAt w' b' (dropR l id x) ∧ Below w.heap.size w w' ∧ NewR w w' b b' l (dropR l id x) := by
  obtain ⟨i1, hi1, ha1, hb1, hc1⟩ := info_parts info_u32
  obtain ⟨i2, hi2, ha2, hb2, hc2⟩ := info_parts info_va
  obtain ⟨i3, hi3, ha3, hb3, hc3⟩ := info_parts info_a8
  have HR := Lib.hid h
  have hpl := plR_le l id
  clear h
  go_enter Tryd.func41, Tryd.ntmps41
  go_wp2_with fail
  refine (place_r b id l w HR.out (by omega)).mono ?_
  rintro e w2 ⟨rfl, hb⟩
  have R2 := Lib.hid (HR.out.ext hb)
  have B2 := Lib.hid hb
  clear hb HR
  obtain ⟨ok, HOK⟩ : ∃ ok, Hid (okR l id = ok) := ⟨_, Lib.hid rfl⟩
  rw [HOK.out]
  cases ok with
  | false =>
    go_wp2
    go_returns
    exact ⟨b, rfl, by unfold dropR; rw [HOK.out]; exact R2.out, B2.out, .inl ⟨rfl, by unfold dropR; rw [HOK.out]; rfl⟩⟩
  | true =>
    have hlt := ok_lt HOK.out
    have hnb := Holds.alloc w2 [.slice none 0 0, .slice none 0 0, .slice none 0 0] 120
    have hba : Below w2.heap.size w2 (w2.alloc (.cells #[.slice none 0 0, .slice none 0 0, .slice none 0 0] 120)) := (Below.refl _ _).alloc (Nat.le_refl _) _
    have HNB := Lib.hid hnb
    have HBA := Lib.hid hba
    clear hnb hba
    obtain ⟨ia, ic, va, vc, sa, sc, q1, _⟩ := R2.out.cells
    have HQ1 := Lib.hid q1
    clear q1
    go_wp2
    go_loopw [10] (fun i wr => ∃ k : Nat, k ≤ l.length ∧ i = .int .i64 (k : Int) ∧ ∃ v1 v2 v3, RefO wr w2.heap.size v1 v2 v3 (curD l id k) (curD l id k) (curD l id k) ∧ Below w2.heap.size w2 wr) (fun i _ => l.length - (intOf i).toNat)
    case atStart => exact ⟨0, by omega, rfl, _, _, _, by rw [show curD l id 0 = [] by simp [curD]]; exact ⟨HNB.out, own_nil _ _ _ _ _, own_nil _ _ _ _ _, own_nil _ _ _ _ _⟩, HBA.out⟩
    case round =>
      obtain ⟨k, hk, rfl, v1, v2, v3, hr, hb⟩ := hrel
      have PR := Lib.hid hr
      have PB := Lib.hid hb
      have HLEN := Lib.hid (curD_len l id k)
      clear hr hb
      obtain ⟨wP, rfl⟩ : ∃ x, x = wr := ⟨wr, rfl⟩
      have s0 := (HQ1.out.ext PB.out).cell (i := 0) rfl
      by_cases hkl : k < l.length
      · have d1 : decide ((k : Int) < (l.length : Int)) = true := by simp; omega
        have d2 : decide (k < l.length) = true := by simpa using hkl
        by_cases hka : k = plR l id
        · have hk1 : ((k : Int) != (plR l id : Int)) = false := by rw [hka]; simp
          have hk2 : (k != plR l id) = false := by rw [hka]; simp
          have hcur := Lib.hid (show curD l id k = curD l id (k + 1) by rw [hka]; exact curD_skip hlt)
          clear hka
          go_wp2
          go_roundw
          case rel => exact ⟨k + 1, by omega, by go_num, _, _, _, by rw [← hcur.out]; exact PR.out, PB.out⟩
          case measure => simp [intOf]; omega
        · have hk1 : ((k : Int) != (plR l id : Int)) = true := by simp; omega
          have hk2 : (k != plR l id) = true := by simpa using hka
          have e1 : l[k]? = some l[k] := List.getElem?_eq_getElem hkl
          generalize l[k] = y at e1
          have hcur := Lib.hid (curD_push e1 hka)
          have E1 := Lib.hid e1
          go_wp2_with fail
          clear e1 s0 hka
          have hre := R2.out.ext PB.out
          obtain ⟨ia, ic, va, vc, sa, sc, q1, q2, q3, q4⟩ := hre.cells
          have s0 := q1.cell (i := 0) rfl
          obtain ⟨g, o, rfl, hg, hc⟩ := rd_elt q2 E1.out
          have f0 := hc 0 _ rfl
          simp only [Nat.add_zero, Nat.mul_one] at f0
          clear hre q1 q2 q3 q4 hc
          obtain ⟨ra1, rc1, hrv, _⟩ := own_len PR.out.o1
          subst hrv
          have pc := PR.out.cells.cell (i := 0) rfl
          have hltB := PR.out.cells.lt
          have hal : Below wP.heap.size wP (wP.alloc (.cells #[.int .u32 (y.id : Nat)] 30)) := (Below.refl _ _).alloc (Nat.le_refl _) _
          have hrow : Holds (wP.alloc (.cells #[.int .u32 (y.id : Nat)] 30)) wP.heap.size (encRI (y)) := Holds.alloc wP (encRI (y)) 30
          have HROW := Lib.hid hrow
          have HAL := Lib.hid hal
          clear hrow hal
          refine rgnC [[0, 1, 2, 3, 5, 6, 7, 8, 9, 10, 11, 4, 12], [13], [14, 15]] [] [4] [⟨w2.heap.size, 0, none⟩] 16 (by kernel_rfl) (by simp) ?_ ?_
          · intro p hp
            simp only [List.mem_singleton] at hp
            subst hp
            rw [pc]; rfl
          have hsame : ∀ W, Below (w2.heap.size + 1) wP W → SameAt [⟨w2.heap.size, 0, none⟩] wP W := by
            intro W hW p hp
            simp only [List.mem_singleton] at hp
            subst hp
            exact hW.cell (by simp)
          have HS := Lib.hid hsame
          clear hsame
          unfold seg
          simp only [pickL, List.getD_cons_zero, List.getD_cons_succ]
          go_wp2
          refine ⟨HS.out _ (HAL.out.drew.mono hltB), ?_⟩
          unfold seg
          simp only [pickL, List.getD_cons_zero, List.getD_cons_succ]
          refine wpList_append_one rfl _ _ _ rfl (w2.heap.size + 1) 30 i1 _ 1 4 und_u32s hi1 ha1 hb1 hc1 rfl (by omega) encRI _ (curD l id k) (y) rfl (PR.out.o1.below HAL.out.drew) wP.heap.size rfl HROW.out.drew rfl (encRI_one _) (by have := HLEN.out; simp only [maxLen]; omega) (by have := HLEN.out; omega) (by simp; omega) ?_
          intro v' W hO hG
          obtain ⟨p1, p2, p3, p4⟩ := (PR.out.ext HAL.out.drew).push1 hG hO
          have gB : Below (w2.heap.size + 1) wP W := (HAL.out.drew.mono hltB).trans (hG.below (by simp; omega) PR.out.o1.block)
          obtain ⟨sa', sn', sc', hsv⟩ := hO.shape
          subst hsv
          have GB := Lib.hid gB
          have PR2 := Lib.hid p1
          have PB2 := Lib.hid (PB.out.trans ((HAL.out.drew.mono (Nat.le_of_lt hltB)).trans p2))
          clear PR PB HROW HAL p1 p2 hG hO gB
          go_wp2
          refine ⟨HS.out _ GB.out, ?_⟩
          unfold seg
          simp only [pickL, List.getD_cons_zero, List.getD_cons_succ]
          go_wp2
          refine ⟨HS.out _ GB.out, rfl, ⟨.inl rfl, trivial⟩, ?_⟩
          simp only [pickL, List.getD_cons_zero, List.getD_cons_succ]
          go_wp2
          unfold OnlyN
          dsimp only
          clear p3 p4 pc hltB HS GB
          generalize W.setCell ⟨w2.heap.size, 0, none⟩ (.slice sa' sn' sc') = wQ at PR2 PB2 ⊢
          have PR := Lib.hid PR2.out
          have PB := Lib.hid PB2.out
          clear PR2 PB2
          obtain ⟨wP, rfl⟩ : ∃ x, x = wQ := ⟨wQ, rfl⟩
          clear s0 f0 hg
          go_wp2_with fail
          have hre := R2.out.ext PB.out
          obtain ⟨ia, ic, va, vc, sa, sc, q1, q2, q3, q4⟩ := hre.cells
          have s0 := q1.cell (i := 1) rfl
          obtain ⟨g, o, rfl, hg, hc⟩ := rd_elt q3 E1.out
          have f0 := hc 0 _ rfl
          have f1 := hc 1 _ rfl
          simp only [Nat.add_zero] at f0
          clear hre q1 q2 q3 q4 hc
          obtain ⟨ra2, rc2, hrv, _⟩ := own_len PR.out.o2
          subst hrv
          have pc := PR.out.cells.cell (i := 1) rfl
          have hltB := PR.out.cells.lt
          have hal : Below wP.heap.size wP (wP.alloc (.cells #[.int .i64 y.v.k, .int .i64 y.v.n] 32)) := (Below.refl _ _).alloc (Nat.le_refl _) _
          have hrow : Holds (wP.alloc (.cells #[.int .i64 y.v.k, .int .i64 y.v.n] 32)) wP.heap.size (encRV (y)) := Holds.alloc wP (encRV (y)) 32
          have HROW := Lib.hid hrow
          have HAL := Lib.hid hal
          clear hrow hal
          refine rgnC [[0, 1, 2, 3, 5, 6, 7, 8, 9, 10, 11, 4, 12], [13], [14, 15]] [] [4] [⟨w2.heap.size, 1, none⟩] 16 (by kernel_rfl) (by simp) ?_ ?_
          · intro p hp
            simp only [List.mem_singleton] at hp
            subst hp
            rw [pc]; rfl
          have hsame : ∀ W, Below (w2.heap.size + 1) wP W → SameAt [⟨w2.heap.size, 1, none⟩] wP W := by
            intro W hW p hp
            simp only [List.mem_singleton] at hp
            subst hp
            exact hW.cell (by simp)
          have HS := Lib.hid hsame
          clear hsame
          unfold seg
          simp only [pickL, List.getD_cons_zero, List.getD_cons_succ]
          go_wp2
          refine ⟨HS.out _ (HAL.out.drew.mono hltB), ?_⟩
          unfold seg
          simp only [pickL, List.getD_cons_zero, List.getD_cons_succ]
          refine wpList_append_one rfl _ _ _ rfl (w2.heap.size + 1) 32 i2 _ 2 16 und_vas hi2 ha2 hb2 hc2 rfl (by omega) encRV _ (curD l id k) (y) rfl (PR.out.o2.below HAL.out.drew) wP.heap.size rfl HROW.out.drew rfl (encRV_one _) (by have := HLEN.out; simp only [maxLen]; omega) (by have := HLEN.out; omega) (by simp; omega) ?_
          intro v' W hO hG
          obtain ⟨p1, p2, p3, p4⟩ := (PR.out.ext HAL.out.drew).push2 hG hO
          have gB : Below (w2.heap.size + 1) wP W := (HAL.out.drew.mono hltB).trans (hG.below (by simp; omega) PR.out.o2.block)
          obtain ⟨sa', sn', sc', hsv⟩ := hO.shape
          subst hsv
          have GB := Lib.hid gB
          have PR2 := Lib.hid p1
          have PB2 := Lib.hid (PB.out.trans ((HAL.out.drew.mono (Nat.le_of_lt hltB)).trans p2))
          clear PR PB HROW HAL p1 p2 hG hO gB
          go_wp2
          refine ⟨HS.out _ GB.out, ?_⟩
          unfold seg
          simp only [pickL, List.getD_cons_zero, List.getD_cons_succ]
          go_wp2
          refine ⟨HS.out _ GB.out, rfl, ⟨.inl rfl, trivial⟩, ?_⟩
          simp only [pickL, List.getD_cons_zero, List.getD_cons_succ]
          go_wp2
          unfold OnlyN
          dsimp only
          clear p3 p4 pc hltB HS GB
          generalize W.setCell ⟨w2.heap.size, 1, none⟩ (.slice sa' sn' sc') = wQ at PR2 PB2 ⊢
          have PR := Lib.hid PR2.out
          have PB := Lib.hid PB2.out
          clear PR2 PB2
          obtain ⟨wP, rfl⟩ : ∃ x, x = wQ := ⟨wQ, rfl⟩
          clear s0 f0 f1 hg
          go_wp2_with fail
          have hre := R2.out.ext PB.out
          obtain ⟨ia, ic, va, vc, sa, sc, q1, q2, q3, q4⟩ := hre.cells
          have s0 := q1.cell (i := 2) rfl
          obtain ⟨g, o, rfl, hg, hc⟩ := rd_elt q4 E1.out
          have HC := Lib.hid hc
          clear hre q1 q2 q3 q4 hc
          obtain ⟨ra3, rc3, hrv, _⟩ := own_len PR.out.o3
          subst hrv
          have pc := PR.out.cells.cell (i := 2) rfl
          have hltB := PR.out.cells.lt
          have hal : Below wP.heap.size wP (wP.alloc (.cells #[.int .i64 (y.s 0), .int .i64 (y.s 1), .int .i64 (y.s 2), .int .i64 (y.s 3), .int .i64 (y.s 4), .int .i64 (y.s 5), .int .i64 (y.s 6), .int .i64 (y.s 7)] 123)) := (Below.refl _ _).alloc (Nat.le_refl _) _
          have hrow : Holds (wP.alloc (.cells #[.int .i64 (y.s 0), .int .i64 (y.s 1), .int .i64 (y.s 2), .int .i64 (y.s 3), .int .i64 (y.s 4), .int .i64 (y.s 5), .int .i64 (y.s 6), .int .i64 (y.s 7)] 123)) wP.heap.size (encRS (y)) := Holds.alloc wP (encRS (y)) 123
          have HROW := Lib.hid hrow
          have HAL := Lib.hid hal
          clear hrow hal
          refine rgnC [[0, 1, 2, 3, 5, 6, 7, 8, 9, 10, 11, 4, 12], [13], [14, 15]] [] [4] [⟨w2.heap.size, 2, none⟩] 16 (by kernel_rfl) (by simp) ?_ ?_
          · intro p hp
            simp only [List.mem_singleton] at hp
            subst hp
            rw [pc]; rfl
          have hsame : ∀ W, Below (w2.heap.size + 1) wP W → SameAt [⟨w2.heap.size, 2, none⟩] wP W := by
            intro W hW p hp
            simp only [List.mem_singleton] at hp
            subst hp
            exact hW.cell (by simp)
          have HS := Lib.hid hsame
          clear hsame
          unfold seg
          simp only [pickL, List.getD_cons_zero, List.getD_cons_succ]
          go_wp2_with (refine wpList_load_cells rfl 123 _ rfl g _ rfl [.int .i64 (y.s 0), .int .i64 (y.s 1), .int .i64 (y.s 2), .int .i64 (y.s 3), .int .i64 (y.s 4), .int .i64 (y.s 5), .int .i64 (y.s 6), .int .i64 (y.s 7)] (HC.out) _ und_a8 rfl info_a8s ?_)
          refine ⟨HS.out _ (HAL.out.drew.mono hltB), ?_⟩
          unfold seg
          simp only [pickL, List.getD_cons_zero, List.getD_cons_succ]
          refine wpList_append_one rfl _ _ _ rfl (w2.heap.size + 1) 123 i3 _ 8 64 und_a8s hi3 ha3 hb3 hc3 rfl (by omega) encRS _ (curD l id k) (y) rfl (PR.out.o3.below HAL.out.drew) wP.heap.size rfl HROW.out.drew rfl (encRS_one _) (by have := HLEN.out; simp only [maxLen]; omega) (by have := HLEN.out; omega) (by simp; omega) ?_
          intro v' W hO hG
          obtain ⟨p1, p2, p3, p4⟩ := (PR.out.ext HAL.out.drew).push3 hG hO
          have gB : Below (w2.heap.size + 1) wP W := (HAL.out.drew.mono hltB).trans (hG.below (by simp; omega) PR.out.o3.block)
          obtain ⟨sa', sn', sc', hsv⟩ := hO.shape
          subst hsv
          have GB := Lib.hid gB
          have PR2 := Lib.hid p1
          have PB2 := Lib.hid (PB.out.trans ((HAL.out.drew.mono (Nat.le_of_lt hltB)).trans p2))
          clear PR PB HROW HAL p1 p2 hG hO gB
          go_wp2
          refine ⟨HS.out _ GB.out, ?_⟩
          unfold seg
          simp only [pickL, List.getD_cons_zero, List.getD_cons_succ]
          go_wp2
          refine ⟨HS.out _ GB.out, rfl, ⟨.inl rfl, trivial⟩, ?_⟩
          simp only [pickL, List.getD_cons_zero, List.getD_cons_succ]
          go_wp2
          unfold OnlyN
          dsimp only
          clear p3 p4 pc hltB HS GB
          generalize W.setCell ⟨w2.heap.size, 2, none⟩ (.slice sa' sn' sc') = wQ at PR2 PB2 ⊢
          have PR := Lib.hid PR2.out
          have PB := Lib.hid PB2.out
          clear PR2 PB2
          obtain ⟨wP, rfl⟩ : ∃ x, x = wQ := ⟨wQ, rfl⟩
          clear s0 HC hg
          go_wp2
          go_roundw
          case rel => exact ⟨k + 1, by omega, by go_num, _, _, _, by rw [← hcur.out]; exact PR.out, PB.out⟩
          case measure => simp [intOf]; omega
      · obtain rfl : k = l.length := by omega
        have d1 : decide ((l.length : Int) < (l.length : Int)) = false := by simp
        have d2 : decide (l.length < l.length) = false := by simp
        have pr := PR.out
        have hids : ∀ e ∈ curD l id l.length, e.id < 4294967296 := curD_ids R2.out.ids
        have hlen := curD_len l id l.length
        have hce := Lib.hid (curD_end hlt)
        generalize curD l id l.length = cur at pr hids hlen hce
        have P2 := Lib.hid pr
        have HI := Lib.hid hids
        clear pr hids HLEN PR
        go_wp2_with fail
        refine (stamped_r w2.heap.size id x cur v1 v2 v3 wP P2.out HI.out hid (by omega)).mono ?_
        rintro e w3 ⟨⟨u, rfl⟩, hs, hb⟩
        have HS := Lib.hid hs
        have HBB := Lib.hid (PB.out.trans (hb.mono (by omega)))
        clear hs hb
        go_wp2
        go_returns
        exact ⟨_, rfl, by unfold dropR; rw [HOK.out, if_pos rfl, ← hce.out]; exact HS.out.at_ (stampR_ids HI.out), B2.out.trans (HBB.out.mono B2.out.size), .inr fun X hX => by unfold dropR; rw [HOK.out, if_pos rfl, ← hce.out]; exact (HS.out.move (fun k hk => hX k (Nat.le_trans B2.out.size hk))).at_ (stampR_ids HI.out)⟩
end Go.Proofs.YtihmhledogppmaaDoor
