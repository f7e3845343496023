/- ref.Below. No condition. -/
import Derived.Test.YtedihfcbpgogoaaA
namespace Go.Proofs.Ytedihfcbpgogoaa
open Go.RowKit
/-- The call w .. wr builds the row v, which reads E. -/
structure OW (w wr : World) (v : Value) (E : List Int) : Prop where
  row : IR wr v E
  new : ∀ g, v.ownBlock = some g → w.heap.size ≤ g
  bel : Below w.heap.size w wr
theorem OW.nil (w : World) : OW w w (.slice none 0 0) [] := ⟨IR.nil _, (fun g hg => by cases hg), Below.refl _ _⟩
theorem OW.take {w wr w3 : World} {v : Value} {E : List Int} {x : Int} {g cap : Nat} (h : OW w wr v E)
    (ho : w3.ownsRow 0 3 1 (.slice (some ⟨g, 0, none⟩) (E.length + 1) cap) (E.length + 1) (E.map (Value.int .i64) ++ [.int .i64 x])) (hg3 : (wr.alloc (.cells #[.int .i64 x] 3)).grownBy w3 v.ownBlock) (hat : v.ownBlock = some g ∨ g = wr.heap.size + 1) :
    OW w w3 (.slice (some ⟨g, 0, none⟩) (E.length + 1) cap) (E ++ [x]) := by
  have a := h.bel
  refine ⟨?_, fun k hk => ?_, Below.grown (a.alloc a.size _) hg3 (by have := a.size; simp; omega) (fun k hk => h.new k hk)⟩
  · unfold IR; rw [List.length_append, List.map_append]; exact ho
  · have e : g = k := by simpa [Value.ownBlock] using hk
    subst e
    rcases hat with h1 | h1
    · exact h.new g h1
    · have := a.size; omega
def okI (T : List Fn) (p : Int) (s i : Nat) : Bool := decide ((fAt T i).pa = p) && decide ((fAt T i).sl = (s : Int))
def kI (T : List Fn) (p : Int) (s i : Nat) : List Int := (((List.range s).flatMap fun (s : Nat) => (List.range T.length).filter (okI T p s)) ++ (List.range i).filter (okI T p s)).map fun n : Nat => (n : Int)
def kidsI (T : List Fn) (p : Int) : List Int := (kids T p).map fun n : Nat => (n : Int)
theorem kI_succ (T : List Fn) (p : Int) (s i : Nat) : kI T p s (i + 1) = if okI T p s i = true then kI T p s i ++ [(i : Int)] else kI T p s i := by
  unfold kI
  rw [List.range_succ, List.filter_append]
  by_cases h : okI T p s i = true
  · simp [h]
  · simp [h]
theorem kI_next (T : List Fn) (p : Int) (s : Nat) : kI T p (s + 1) 0 = kI T p s T.length := by
  unfold kI
  rw [List.range_succ, List.flatMap_append]
  simp
theorem kI_done (T : List Fn) (p : Int) : kI T p 32 0 = kidsI T p := by
  unfold kI kidsI kids
  simp
  rfl
theorem kI_len (T : List Fn) (p : Int) : ∀ s i, (kI T p s i).length ≤ s * T.length + i := by
  intro s i
  unfold kI
  rw [List.length_map, List.length_append]
  have h1 : ((List.range i).filter (okI T p s)).length ≤ i := by have := List.length_filter_le (okI T p s) (List.range i); simpa using this
  have h2 : ((List.range s).flatMap fun (s : Nat) => (List.range T.length).filter (okI T p s)).length ≤ s * T.length := by
    clear h1
    induction s with
    | zero => simp
    | succ s ih =>
      rw [List.range_succ, List.flatMap_append, List.length_append, Nat.succ_mul]
      have h3 : ((List.range T.length).filter (okI T p s)).length ≤ T.length := by have := List.length_filter_le (okI T p s) (List.range T.length); simpa using this
      simp only [List.flatMap_cons, List.flatMap_nil, List.append_nil]
      omega
  omega
set_option maxRecDepth 100000 in
set_option maxHeartbeats 2000000 in
theorem below_any {w : World} {a : Option Addr} {len cap : Nat} {T : List Fn} {p : Int} (h : FnS w a len cap T) (hl : len ≤ 1000) :
    Calls Try.prog 34 #[.slice a len cap, .int .i64 p] w fun e w' => ∃ v, e = .returned v ∧ OW w w' v (kidsI T p) := by
  have H := Lib.hid h
  obtain ⟨hT, hc, _⟩ := h.len
  clear h
  obtain ⟨i0, hi0, hz0, hz1, hz2⟩ := info_parts Try.info3
  go_enter Try.func34, Try.ntmps34
  go_wp2_with fail
  go_loopw [5, 6, 7] (fun v z _ wr => ∃ s : Nat, s ≤ 32 ∧ z = .int .i64 (s : Int) ∧ Hid (OW w wr v (kI T p s 0))) (fun _ z _ _ => 32 - (intOf z).toNat)
  case atStart => exact ⟨0, by omega, rfl, OW.nil w⟩
  case round =>
    obtain ⟨s, hs, rfl, O⟩ := hrel
    by_cases hs2 : s < 32
    · have y0 : (s : Int) < 32 := by omega
      go_wp2_with fail
      obtain ⟨wo, hwo⟩ : ∃ wo : World, wo = wr := ⟨_, rfl⟩
      go_loopw [5, 7] (fun v z wr => ∃ i : Nat, i ≤ len ∧ z = .int .i64 (i : Int) ∧ Hid (OW w wr v (kI T p s i))) (fun _ z _ => len - (intOf z).toNat)
      case atStart => exact ⟨0, by omega, rfl, O⟩
      case round =>
        clear O
        obtain ⟨i, hi, rfl, O⟩ := hrel
        by_cases hil : i < len
        · have y1 : (i : Int) < len := by omega
          obtain ⟨b, o, rfl, hb, _, _, hr⟩ := H.out.at hil
          have c0 : wr.cell? ⟨b, o + i * 11, none⟩ = some (.int .i64 (fAt T i).pa) := (O.out.bel.cell (p := ⟨b, o + i * 11, none⟩) hb).trans (rangeAt.cell hr (j := 0) rfl)
          have c1 : wr.cell? ⟨b, o + i * 11 + 1, none⟩ = some (.int .i64 (fAt T i).sl) := (O.out.bel.cell (p := ⟨b, o + i * 11 + 1, none⟩) hb).trans (rangeAt.cell hr (j := 1) rfl)
          have hk := kI_succ T p s i
          have hE : (kI T p s i).length ≤ 33000 := by
            have h1 := kI_len T p s i
            have h2 : s * T.length ≤ 32 * 1000 := Nat.mul_le_mul hs (by omega)
            omega
          have hok : okI T p s i = (decide ((fAt T i).pa = p) && decide ((fAt T i).sl = (s : Int))) := rfl
          clear hr
          generalize (fAt T i).pa = pa at *
          generalize (fAt T i).sl = sl at *
          by_cases h1 : pa = p
          · by_cases h2 : sl = (s : Int)
            · have hk2 : kI T p s (i + 1) = kI T p s i ++ [(i : Int)] := by rw [hk, if_pos (by rw [hok]; simp [h1, h2])]
              have HP := Lib.hid (IR.push O.out.row (i : Int))
              clear hk hok
              generalize kI T p s i = E at *
              go_wp2_with (at_builtin; refine wpList_append_lies _ rfl _ _ 49 rfl 0 3 i0 _ 1 8 Try.underlying49 hi0 hz0 hz1 hz2 rfl (by omega) u5 E.length (E.map (Value.int .i64)) rfl (by exact HP.out.2) ⟨wr.heap.size, 0, none⟩ 1 1 [.int .i64 (i : Int)] rfl rfl (by exact HP.out.1) (by simp [Value.oneCell']) (by omega) (by simp only [maxLen]; omega) (by omega) (Nat.zero_le _) (wr.heap.size + 1) (by simp) ?_)
              intro g cap2 w4 ho hg hat hbel
              have O2 := Lib.hid (O.out.take ho hg hat)
              rw [← hk2] at O2
              clear ho hg hat
              go_wp2_with fail
              go_roundw
              case rel => exact ⟨i + 1, by omega, by go_num, O2⟩
              case measure => simp [intOf]; omega
            · have hk2 : kI T p s (i + 1) = kI T p s i := by rw [hk, if_neg (by rw [hok]; simp [h2])]
              rw [← hk2] at O
              clear hk hok
              go_wp2_with fail
              go_roundw
              case rel => exact ⟨i + 1, by omega, by go_num, O⟩
              case measure => simp [intOf]; omega
          · have hk2 : kI T p s (i + 1) = kI T p s i := by rw [hk, if_neg (by rw [hok]; simp [h1])]
            rw [← hk2] at O
            clear hk hok
            go_wp2_with fail
            go_roundw
            case rel => exact ⟨i + 1, by omega, by go_num, O⟩
            case measure => simp [intOf]; omega
        · have y1 : ¬ (i : Int) < len := by omega
          have hi2 : i = T.length := by omega
          have hk2 := kI_next T p s
          rw [hi2, ← hk2] at O
          go_wp2_with fail
          go_roundw
          case rel => exact ⟨s + 1, by omega, by go_num, O⟩
          case measure => simp [intOf]; omega
    · have y0 : ¬ (s : Int) < 32 := by omega
      have hs3 : s = 32 := by omega
      rw [hs3, kI_done] at O
      go_wp2_with fail
      go_ret
      exact ⟨_, rfl, O.out⟩
end Go.Proofs.Ytedihfcbpgogoaa
