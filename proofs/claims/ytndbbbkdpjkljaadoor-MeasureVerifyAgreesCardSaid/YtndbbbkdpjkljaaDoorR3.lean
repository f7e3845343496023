/- How slices of events and of digests, and digests, are read. No condition. -/
import Derived.Test.YtndbbbkdpjkljaaDoorR2
import Derived.Test.YtndbbbkdpjkljaaDoorW
namespace Go.Proofs.YtndbbbkdpjkljaaDoor
open Go.ChangeShapes Go.WideShapes Go.ChangeAt Go.RowKit Go.Deep

/-- The slice reads as these events. -/
def EvS (w : World) (a : Option Addr) (len cap : Nat) (es : List Ev) : Prop := es.length = len ∧ len ≤ cap ∧ cap ≤ maxLen ∧ (∀ e ∈ es, Byt e.d ∧ -9223372036854775808 ≤ e.r ∧ e.r ≤ 9223372036854775807) ∧ (es ≠ [] → ∃ b o, a = some ⟨b, o, none⟩ ∧ b < w.heap.size ∧ ∀ i e, es[i]? = some e → w.rangeAt b (o + i * 34) (evc e))
theorem EvS.rd {w : World} {a : Option Addr} {len cap : Nat} {es : List Ev} (h : EvS w a len cap es) : RdE w (.slice a len cap) es := by
  obtain ⟨h1, _, _, _, h5⟩ := h
  exact ⟨a, cap, by rw [h1], h5⟩
/-- The slice reads as these digests. -/
def DgS (w : World) (a : Option Addr) (len cap : Nat) (Ds : List (Nat → Int)) : Prop := Ds.length = len ∧ len ≤ cap ∧ cap ≤ maxLen ∧ (∀ D ∈ Ds, Byt D) ∧ (Ds ≠ [] → ∃ b o, a = some ⟨b, o, none⟩ ∧ b < w.heap.size ∧ ∀ i D, Ds[i]? = some D → w.rangeAt b (o + i * 32) (arr 32 (b8 D)).toList)
theorem DgS.rd {w : World} {a : Option Addr} {len cap : Nat} {es : List (Nat → Int)} (h : DgS w a len cap es) : RdD w (.slice a len cap) es := by
  obtain ⟨h1, _, _, _, h5⟩ := h
  exact ⟨a, cap, by rw [h1], h5⟩
section
variable {H : Type} {enc : TypeId × Value → H} {w : World} {base : Nat} {spare : Nat → Bool} {held : Bool}
theorem dig_of {fuel : Nat} {cs : List Value} {x : DataW H × List MemPlace} (h : DataW.trod enc Tryd.prog w base spare held fuel 26 cs = some x) : ∃ D : Nat → Int, Byt D ∧ cs = (arr 32 (b8 D)).toList := by
  obtain ⟨xs, m, _, _, hl, hxl, hel⟩ := DataW.trod_array Tryd.underlying26 h
  rw [cells26] at hl
  rw [cells5] at hel
  have hex : ∀ i, i < 32 → ∃ n : Int, cs[i]? = some (.int .u8 n) ∧ 0 ≤ n ∧ n ≤ 255 := fun i hi => by
    have h1 := hel i hi
    rw [List.getElem?_eq_getElem (by omega), Nat.mul_one] at h1
    obtain ⟨n, e1, _, wf⟩ := DataW.trod_int (k := .u8) Tryd.underlying5 h1
    have b := bounds_u8 wf
    refine ⟨n, ?_, b.1, b.2⟩
    have h0 : ((cs.drop i).take 1)[0]? = some (.int .u8 n) := by rw [e1]; rfl
    simpa using h0
  refine ⟨fun i => match cs[i]? with | some (.int _ n) => if 0 ≤ n ∧ n ≤ 255 then n else 0 | _ => 0, fun i => ?_, ?_⟩
  · dsimp only
    split
    · split
      · assumption
      · exact ⟨Int.le_refl _, by decide⟩
    · exact ⟨Int.le_refl _, by decide⟩
  · apply List.ext_getElem?
    intro i
    by_cases hi : i < 32
    · obtain ⟨n, hn, h0, h1⟩ := hex i hi
      rw [hn]
      simp [arr, hi, b8, hn, h0, h1]
    · rw [List.getElem?_eq_none (by omega), List.getElem?_eq_none (by simp [arr]; omega)]
theorem open_ev {fuel : Nat} {cs : List Value} {x : DataW H × List MemPlace} (h : DataW.trod enc Tryd.prog w base spare held fuel 45 cs = some x) :
    ∃ e : Ev, (Byt e.d ∧ -9223372036854775808 ≤ e.r ∧ e.r ≤ 9223372036854775807) ∧ cs = evc e := by
  obtain ⟨ys, n, hn, hy, hlen, hyl, hf⟩ := DataW.trod_struct Tryd.underlying45 h
  rw [cells45] at hlen
  match ys, hyl with
  | [y0, y1, y2], _ =>
    obtain ⟨a, ea, _, wa⟩ := DataW.trod_int (k := .i64) Tryd.underlying3 (hf 0 _ rfl)
    obtain ⟨D, hD, ed⟩ := dig_of (hf 1 _ rfl)
    obtain ⟨t, et, _, wt⟩ := DataW.trod_string Tryd.underlying9 (hf 2 _ rfl)
    simp [cells3, cells9, cells26] at ea ed et
    have ba := bounds_i64 wa
    refine ⟨⟨a, D, t⟩, ⟨hD, ba.1, ba.2⟩, ?_⟩
    have e1 : cs = cs.take 1 ++ ((cs.drop 1).take 32 ++ (cs.drop 33).take 1) := by
      apply List.ext_getElem?
      intro i
      by_cases h1 : i < 1
      · rw [List.getElem?_append_left (by simp; omega), List.getElem?_take_of_lt h1]
      · rw [List.getElem?_append_right (by simp; omega)]
        by_cases h2 : i < 33
        · rw [List.getElem?_append_left (by simp; omega), List.getElem?_take_of_lt (by simp; omega), List.getElem?_drop]
          congr 1; simp; omega
        · rw [List.getElem?_append_right (by simp; omega)]
          by_cases h3 : i < 34
          · rw [List.getElem?_take_of_lt (by simp; omega), List.getElem?_drop]
            congr 1; simp; omega
          · rw [List.getElem?_eq_none (by omega), List.getElem?_eq_none (by simp; omega)]
    rw [e1]
    have e2 : cs.take 1 = [.int .i64 a] := by simpa using ea
    have e3 : (cs.drop 33).take 1 = [.string t] := by simpa using et
    have e4 : (cs.drop 1).take 32 = (arr 32 (b8 D)).toList := by simpa using ed
    rw [e2, e3, e4]
    rfl
theorem open_evs {fuel : Nat} {cs : List Value} {x : DataW H × List MemPlace} (h : DataW.trod enc Tryd.prog w base spare held fuel 46 cs = some x) :
    ∃ (A : Option Addr) (len cap : Nat) (l : List Ev), cs = [.slice A len cap] ∧ EvS w A len cap l := by
  obtain ⟨A, len, cap, l, h1, h2, h3, h4, h5, h6⟩ := open_list Tryd.underlying46 cells45 (by omega) evc (fun e => Byt e.d ∧ -9223372036854775808 ≤ e.r ∧ e.r ≤ 9223372036854775807) evc_len (fun h => open_ev h) h
  exact ⟨A, len, cap, l, h1, h2, h3, h4, h5, h6⟩
theorem open_dgs {fuel : Nat} {cs : List Value} {x : DataW H × List MemPlace} (h : DataW.trod enc Tryd.prog w base spare held fuel 48 cs = some x) :
    ∃ (A : Option Addr) (len cap : Nat) (l : List (Nat → Int)), cs = [.slice A len cap] ∧ DgS w A len cap l := by
  obtain ⟨A, len, cap, l, h1, h2, h3, h4, h5, h6⟩ := open_list Tryd.underlying48 cells26 (by omega) (fun D => (arr 32 (b8 D)).toList) Byt (fun _ => by simp [arr]) (fun h => dig_of h) h
  exact ⟨A, len, cap, l, h1, h2, h3, h4, h5, h6⟩
end
end Go.Proofs.YtndbbbkdpjkljaaDoor
