/- The walk of trie.walk: the entries from low on, in order, to whatever yield. -/
import Derived.Test.YtmhhejpokgdjoaaTrE
import Derived.Test.YtmhhejpokgdjoaaTrF
import Derived.Test.YtmhhejpokgdjoaaIt
import Derived.Shelf.Abstract
namespace Go.Proofs.Ytmhhejpokgdjoaa
open Go Go.RowKit
set_option linter.unusedVariables false
set_option linter.unusedSimpArgs false
attribute [local go_sem] Oper.semAt_some

def encE (e : Nat × V) : Array Value := #[.int .u32 (e.1 : Nat), .agg #[.int .i64 e.2.k, .int .i64 e.2.n]]
/-- What a walk over es comes to, when pre has been given. -/
def Went {α : Type} (Inv Brk : List α → World → Prop) (pre es : List α) (e : Ending) (w' : World) : Prop :=
  (e = .returned (.bool true) ∧ Inv (pre ++ es) w') ∨ (e = .returned (.bool false) ∧ ∃ p x q, es = p ++ x :: q ∧ Brk (pre ++ p ++ [x]) w')
set_option maxRecDepth 100000 in
set_option maxHeartbeats 800000 in
theorem walk0 (Y : Value) (xs : List (Nat × V)) (Inv Brk : List (Nat × V) → World → Prop) (hY : Yd Try.prog Y encE xs Inv Brk) (bn : Nat) (f : Fin 16 → Tr 0) (head low : Nat) (pre post : List (Nat × V)) (w : World)
    (hI : ∀ pre W, Inv pre W → Tr.at (d := 1) W (some (bn, f))) (hx : xs = pre ++ fromL low (Tr.ents (d := 1) (some (bn, f)) head) ++ post) (hh : head + 16 ≤ 4294967296) (hl : low < 4294967296) (h0 : Inv pre w) :
    Calls Try.prog 77 #[.pointer (some ⟨bn, 0, none⟩), .int .i64 7, .int .u32 head, .int .u32 low, Y] w (Went Inv Brk pre (fromL low (Tr.ents (d := 1) (some (bn, f)) head))) := by
  refine (callsIn_wide (n := 0)).1 (callsIn_of_wp Try.func77 rfl trivial ?_)
  simp only [Try.ntmps77, List.size_toArray, List.length_cons, List.length_nil, Nat.reduceAdd, Nat.reduceSub, Array.replicate_succ, Array.replicate_zero, List.push_toArray, List.append_toArray, List.nil_append, List.cons_append]
  gi_wp2
  gi_loopw [21] (fun i wr => ∃ k : Nat, k ≤ 16 ∧ i = .int .i64 (k : Int) ∧ Inv (pre ++ fromL low (entsK f head k)) wr) (fun i _ => 16 - (intOf i).toNat)
  case atStart => exact ⟨0, by omega, rfl, by rw [entsK_zero]; simpa [fromL] using h0⟩
  case round =>
    obtain ⟨k, hk, rfl, hIk⟩ := hrel
    by_cases hk16 : k < 16
    · have hkE := entsK_succ f head k hk16
      rw [Nat.pow_zero, Nat.mul_one] at hkE
      by_cases hlo : head + k < low
      · have hnil : fromL low (entsK f head (k + 1)) = fromL low (entsK f head k) := by
          rw [hkE, fromL_append, fromL_none (by simp; omega), List.append_nil]
        have HN := Lib.hid hnil
        have HX := Lib.hid hx
        clear hnil hkE hx
        gi_wp2
        go_roundw
        case rel => exact ⟨k + 1, by omega, by go_num, by rw [HN.out]; exact hIk⟩
        case measure => simp [intOf]; omega
      · have hat := hI _ _ hIk
        have hc := hat.1.cell (leaf_cell f ⟨k, hk16⟩)
        have hav := hat.2 ⟨k, hk16⟩
        obtain ⟨q, hes⟩ := ents_split bn f head low k hk16
        rw [Nat.pow_zero, Nat.mul_one] at hes
        have hxs : xs = pre ++ fromL low (entsK f head k) ++ fromL low ((f ⟨k, hk16⟩).ents (head + k)) ++ (q ++ post) := by
          rw [hx, hes]; simp only [List.append_assoc]
        have HES := Lib.hid hes
        clear hes
        dsimp only at hc
        generalize f ⟨k, hk16⟩ = leaf at *
        have HX := Lib.hid hx
        have HK := Lib.hid hkE
        clear hx hkE
        cases leaf with
        | none =>
          have hp : Tr.ptr (d := 0) none = .pointer none := rfl
          rw [hp] at hc
          clear hp hxs
          gi_wp2
          refine ⟨fun _ h => (by cases h), ?_⟩
          gi_wp2
          go_roundw
          case rel => exact ⟨k + 1, by omega, by go_num, by rw [HK.out, fromL_append]; simpa [fromL, Tr.ents] using hIk⟩
          case measure => simp [intOf]; omega
        | some p =>
          obtain ⟨bv, v⟩ := p
          have hp : Tr.ptr (d := 0) (some (bv, v)) = .pointer (some ⟨bv, 0, none⟩) := rfl
          rw [hp] at hc
          have hv0 := Holds.cell hav (i := 0) rfl
          have hv1 := Holds.cell hav (i := 1) rfl
          have he : fromL low (Tr.ents (d := 0) (some (bv, v)) (head + k)) = [(head + k, v)] := by
            show List.filter _ [(head + k, v)] = _
            simp; omega
          rw [he] at hxs
          have hy := hY _ (head + k, v) (q ++ post) (by rw [hxs]; simp) wr hIk
          have HY := Lib.hid hy
          have HE := Lib.hid he
          clear hp hxs he hy
          gi_wp2_with (refine wpListIn_callV (open_wide _) rfl _ _ _ rfl (vs := encE (head + k, v)) rfl (by simp [encE, Act.eval]) ?_; refine HY.out.mono ?_; rintro e W' (⟨rfl, hi⟩ | ⟨rfl, hb⟩))
          · go_roundw
            case rel => exact ⟨k + 1, by omega, by go_num, by rw [HK.out, fromL_append, HE.out, ← List.append_assoc]; exact hi⟩
            case measure => simp [intOf]; omega
          · go_returns
            exact .inr ⟨rfl, fromL low (entsK f head k), (head + k, v), q, by rw [HES.out, HE.out]; simp, hb⟩
    · obtain rfl : k = 16 := by omega
      gi_wp2
      go_returns
      exact .inl ⟨rfl, by rw [← entsK_all]; exact hIk⟩
theorem span_eq (lv d : Nat) (h : lv + (d + 1) = 7) : (2 ^ (28 - 4 * lv) % 4294967296 : Int) = ((16 ^ (d + 1) : Nat) : Int) := by
  have e : 28 - 4 * lv = 4 * (d + 1) := by omega
  have hle : 16 ^ (d + 1) ≤ 16 ^ 7 := Nat.pow_le_pow_right (by decide) (by omega)
  have h7 : (16 : Nat) ^ 7 = 268435456 := by decide
  rw [e, Int.pow_mul]
  have e2 : ((2 : Int) ^ 4) ^ (d + 1) = ((16 ^ (d + 1) : Nat) : Int) := by norm_cast
  rw [e2]
  rw [h7] at hle
  generalize 16 ^ (d + 1) = S at hle ⊢
  omega
set_option maxRecDepth 100000 in
set_option maxHeartbeats 800000 in
theorem walkS {d : Nat} (Y : Value) (xs : List (Nat × V)) (Inv Brk : List (Nat × V) → World → Prop)
    (ih : ∀ (t : Tr (d + 1)) (lv head low : Nat) (pre post : List (Nat × V)) (w : World), lv + d = 7 → (∀ pre W, Inv pre W → t.at W) → xs = pre ++ fromL low (t.ents head) ++ post → head + 16 ^ (d + 1) ≤ 4294967296 → low < 4294967296 → Inv pre w →
      Calls Try.prog 77 #[t.ptr, .int .i64 lv, .int .u32 head, .int .u32 low, Y] w (Went Inv Brk pre (fromL low (t.ents head))))
    (bn : Nat) (f : Fin 16 → Tr (d + 1)) (lv head low : Nat) (pre post : List (Nat × V)) (w : World) (hlv : lv + (d + 1) = 7)
    (hI : ∀ pre W, Inv pre W → Tr.at (d := d + 2) W (some (bn, f))) (hx : xs = pre ++ fromL low (Tr.ents (d := d + 2) (some (bn, f)) head) ++ post) (hh : head + 16 ^ (d + 2) ≤ 4294967296) (hl : low < 4294967296) (h0 : Inv pre w) :
    Calls Try.prog 77 #[.pointer (some ⟨bn, 0, none⟩), .int .i64 lv, .int .u32 head, .int .u32 low, Y] w (Went Inv Brk pre (fromL low (Tr.ents (d := d + 2) (some (bn, f)) head))) := by
  have hl6 : lv ≤ 6 := by omega
  obtain ⟨S, hS⟩ : ∃ S, S = 16 ^ (d + 1) := ⟨_, rfl⟩
  have hS1 : 1 ≤ S := by rw [hS]; exact Nat.one_le_pow _ _ (by decide)
  have h16 : 16 ^ (d + 2) = 16 * S := by rw [hS, Nat.pow_succ, Nat.mul_comm]
  rw [h16] at hh
  have HL := Lib.hid hlv
  have HS := Lib.hid hS
  clear hlv hS h16
  refine (callsIn_wide (n := 0)).1 (callsIn_of_wp Try.func77 rfl trivial ?_)
  simp only [Try.ntmps77, List.size_toArray, List.length_cons, List.length_nil, Nat.reduceAdd, Nat.reduceSub, Array.replicate_succ, Array.replicate_zero, List.push_toArray, List.append_toArray, List.nil_append, List.cons_append]
  gi_wp2
  rw [span_eq lv d HL.out, ← HS.out]
  gi_loopw [21] (fun i wr => ∃ k : Nat, k ≤ 16 ∧ i = .int .i64 (k : Int) ∧ Inv (pre ++ fromL low (entsK f head k)) wr) (fun i _ => 16 - (intOf i).toNat)
  case atStart => exact ⟨0, by omega, rfl, by rw [entsK_zero]; simpa [fromL] using h0⟩
  case round =>
    obtain ⟨k, hk, rfl, hIk⟩ := hrel
    by_cases hk16 : k < 16
    · have hkE := entsK_succ f head k hk16
      rw [← HS.out] at hkE
      obtain ⟨M, hM⟩ : ∃ M, M = k * S := ⟨_, rfl⟩
      have hM16 : M + S ≤ 16 * S := by
        rw [hM]
        have := Nat.mul_le_mul_right S (show k + 1 ≤ 16 by omega)
        rw [Nat.add_mul, Nat.one_mul] at this
        exact this
      have hMi : (k : Int) * (S : Int) = (M : Int) := by rw [hM]; norm_cast
      rw [← hM] at hkE
      by_cases hlo : head + M + (S - 1) < low
      · have hnil : fromL low (entsK f head (k + 1)) = fromL low (entsK f head k) := by
          rw [hkE, fromL_append, fromL_none (by rw [← HS.out]; omega), List.append_nil]
        have HN := Lib.hid hnil
        have HX := Lib.hid hx
        have HM := Lib.hid hM
        clear hnil hkE hx hM
        gi_wp2
        go_roundw
        case rel => exact ⟨k + 1, by omega, by go_num, by rw [HN.out]; exact hIk⟩
        case measure => simp [intOf]; omega
      · have hat := hI _ _ hIk
        have hc := hat.1.cell (kids_cell f ⟨k, hk16⟩)
        obtain ⟨q, hes⟩ := ents_split bn f head low k hk16
        rw [← HS.out, ← hM] at hes
        have hxs : xs = pre ++ fromL low (entsK f head k) ++ fromL low ((f ⟨k, hk16⟩).ents (head + M)) ++ (q ++ post) := by
          rw [hx, hes]; simp only [List.append_assoc]
        have hcall := ih (f ⟨k, hk16⟩) (lv + 1) (head + M) low (pre ++ fromL low (entsK f head k)) (q ++ post) wr (by have := HL.out; omega) (fun pre W h => (hI pre W h).2 ⟨k, hk16⟩) hxs (by rw [← HS.out]; omega) hl hIk
        dsimp only at hc
        generalize f ⟨k, hk16⟩ = kid at *
        have HES := Lib.hid hes
        have HX := Lib.hid hx
        have HK := Lib.hid hkE
        have HM := Lib.hid hM
        have HC := Lib.hid hcall
        clear hx hkE hes hM hxs hcall
        gi_wp2_with (refine ⟨trivial, rfl, ?_⟩; gi_at_call 77; refine (open_wide _).calls (HC.out.mono ?_); rintro e W' (⟨rfl, hi⟩ | ⟨rfl, p, x, qq, hpq, hb⟩))
        · go_roundw
          case rel => exact ⟨k + 1, by omega, by go_num, by rw [HK.out, fromL_append, ← List.append_assoc]; exact hi⟩
          case measure => simp [intOf]; omega
        · go_returns
          refine .inr ⟨rfl, fromL low (entsK f head k) ++ p, x, qq ++ q, ?_, ?_⟩
          · rw [HES.out, hpq]; simp
          · rw [← List.append_assoc]; exact hb
    · obtain rfl : k = 16 := by omega
      gi_wp2
      go_returns
      exact .inl ⟨rfl, by rw [← entsK_all]; exact hIk⟩
theorem walk_any (Y : Value) (xs : List (Nat × V)) (Inv Brk : List (Nat × V) → World → Prop) (hY : Yd Try.prog Y encE xs Inv Brk) : ∀ (d : Nat) (t : Tr (d + 1)) (lv head low : Nat) (pre post : List (Nat × V)) (w : World), lv + d = 7 → (∀ pre W, Inv pre W → t.at W) →
    xs = pre ++ fromL low (t.ents head) ++ post → head + 16 ^ (d + 1) ≤ 4294967296 → low < 4294967296 → Inv pre w → Calls Try.prog 77 #[t.ptr, .int .i64 lv, .int .u32 head, .int .u32 low, Y] w (Went Inv Brk pre (fromL low (t.ents head))) := by
  have hnone : ∀ (d lv head low : Nat) (pre : List (Nat × V)) (w : World), Inv pre w → Calls Try.prog 77 #[.pointer none, .int .i64 lv, .int .u32 head, .int .u32 low, Y] w (Went Inv Brk pre (fromL low (Tr.ents (d := d + 1) none head))) := by
    intro d lv head low pre w h0
    go_enter Try.func77, Try.ntmps77
    go_wp2
    go_returns
    exact .inl ⟨rfl, by rw [Tr.ents_none]; simpa [fromL] using h0⟩
  intro d
  induction d with
  | zero =>
    intro t lv head low pre post w hlv hI hx hh hl h0
    cases t with
    | none => exact hnone 0 lv head low pre w h0
    | some p =>
      obtain ⟨bn, f⟩ := p
      obtain rfl : lv = 7 := by omega
      exact walk0 Y xs Inv Brk hY bn f head low pre post w hI hx (by simpa using hh) hl h0
  | succ d ih =>
    intro t lv head low pre post w hlv hI hx hh hl h0
    cases t with
    | none => exact hnone (d + 1) lv head low pre w h0
    | some p =>
      obtain ⟨bn, f⟩ := p
      exact walkS Y xs Inv Brk ih bn f lv head low pre post w hlv hI hx hh hl h0
end Go.Proofs.Ytmhhejpokgdjoaa
