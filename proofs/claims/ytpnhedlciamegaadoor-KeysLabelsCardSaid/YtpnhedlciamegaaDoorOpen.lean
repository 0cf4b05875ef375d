/- Arguments that come in: texts in a row; a key. -/
import Derived.Test.YtpnhedlciamegaaDoorLaid
import Derived.Test.YtpnhedlciamegaaDoorLabels2
import Derived.SliceStrings
import Derived.DataReads
set_option linter.all false
set_option linter.unusedSimpArgs false
set_option linter.unnecessarySimpa false
set_option linter.deprecated false
set_option maxRecDepth 100000
set_option linter.unusedVariables false
namespace Go.Proofs.Sep
open Go Go.RowKit Go.WideShapes

section
variable {H : Type} {enc : TypeId × Value → H} {P : Program} {w : World} {base : Nat} {fuel : Nat} {t : TypeId} {cs : List Value} {x : DataW H × List MemPlace}
/-- A cell's block, whole. -/
theorem cell_block {a : Addr} {v : Value} (h : w.cell? a = some v) : a.spot = none ∧ ∃ arr t fr, w.heap[a.block]? = some (.cells arr t fr) ∧ arr[a.off]? = some v := by
  refine ⟨World.cell?_spot h, ?_⟩
  unfold World.cell? at h
  split at h
  · rename_i c t fr hh
    split at h
    · cases h
    · exact ⟨c, t, fr, hh, h⟩
  · cases h
theorem strs_flat : ∀ l : List (List UInt8), (strs l).flatten = l.map str
  | [] => rfl
  | s :: l => by rw [show strs (s :: l) = [str s] :: strs l from rfl, List.flatten_cons, strs_flat l]; rfl
theorem Sl_of_cells {a : Addr} {cap : Nat} {l : List (List UInt8)} (hc : l.length ≤ cap) (hm : l.length ≤ 9223372036854775807) (h : ∀ i, i < l.length → w.cell? (a.add i) = some (str (l.getD i []))) : Sl (fun b => w.heap[b]?) (.slice (some a) l.length cap) 1 (strs l) := by
  refine ⟨strs_one, by rw [strs_len]; exact hm, some a, cap, by rw [strs_len], by rw [strs_len]; exact hc, fun hl => ?_⟩
  rw [strs_len] at hl
  have h0 := h 0 hl
  rw [show a.add 0 = a from rfl] at h0
  obtain ⟨hs, arr, ty, fr, hh, _⟩ := cell_block h0
  refine ⟨a.block, a.off, arr, ty, fr, by cases a; simp at hs; subst hs; rfl, hh, ?_⟩
  have hfl := strs_flat l
  rw [hfl, List.length_map]
  refine List.ext_getElem? fun i => ?_
  rw [List.getElem?_take]
  by_cases hi : i < l.length
  · have h1 := h i hi
    obtain ⟨_, arr2, ty2, fr2, hh2, hv⟩ := cell_block h1
    have hb : (a.add i).block = a.block := by unfold Addr.add; split <;> rfl
    have ho : (a.add i).off = a.off + i := by unfold Addr.add; split <;> simp_all
    rw [hb, hh] at hh2
    cases hh2
    rw [if_pos hi, List.getElem?_drop, Array.getElem?_toList, ← ho, hv, List.getElem?_map, List.getD_eq_getElem?_getD, List.getElem?_eq_getElem hi]
    rfl
  · rw [if_neg hi, List.getElem?_eq_none (by rw [List.length_map]; omega)]
theorem Sl_of_strings {e : TypeId} (ht : P.underlying t = some (.slice e)) (he : P.underlying e = some .string) (hc : P.cellsOf e = 1) (h : DataW.trod enc P w base (fun _ => true) true fuel t cs = some x) : ∃ pv l, cs = [pv] ∧ Sl (fun b => w.heap[b]?) pv 1 (strs l) := by
  rcases Go.ChangeShapes.open_strings ht he hc h with ⟨rfl, _⟩ | ⟨a, len, cap, ss, rfl, _, hlc, hm, hss, _, hcell, _⟩
  · exact ⟨_, [], rfl, Sl_nil _ 1⟩
  · simp only [if_true] at hss
    have hl : ((ss.take len).map fun s => s.data.toList).length = len := by rw [List.length_map, List.length_take]; omega
    have hmax : maxLen = 9223372036854775807 := rfl
    have := Sl_of_cells (w := w) (a := a) (cap := cap) (l := (ss.take len).map fun s => s.data.toList) (by omega) (by omega) fun i hi => by
      rw [hl] at hi
      rw [hcell i (by omega)]
      have h1 : ss.getD i ByteArray.empty = ss[i]'(by omega) := by rw [List.getD_eq_getElem?_getD, List.getElem?_eq_getElem (by omega)]; rfl
      have h2 : ((ss.take len).map fun s => s.data.toList).getD i [] = (ss[i]'(by omega)).data.toList := by
        rw [List.getD_eq_getElem?_getD, List.getElem?_map, List.getElem?_take, if_pos hi, List.getElem?_eq_getElem (by omega)]
        rfl
      rw [h1, h2, string_str]
    rw [hl] at this
    exact ⟨_, _, rfl, this⟩
end
theorem key_of {H : Type} {enc : TypeId × Value → H} {W : World} {base : Nat} {v : Value} {d : DataW H} {p : List MemPlace} (hw : Value.okWide Tryd.prog W .any base 28 v) (h : DataW.Trod enc Tryd.prog W 0 (fun _ => true) true 28 v d p) :
    ∃ k pv b l, v = keyV k pv b ∧ Sl (fun b => W.heap[b]?) pv 1 (strs l) := by
  obtain ⟨cs, rfl, hsz⟩ := okWide_struct Tryd.underlying28 hw
  obtain ⟨fuel, h⟩ := h
  obtain ⟨xs, n, rfl, _, hlen, hxs, hel⟩ := DataW.trod_struct Tryd.underlying28 h
  have hs3 : cs.size = 3 := hsz.trans (by kernel_rfl)
  obtain ⟨l⟩ := cs
  match l, hs3 with
  | [c0, c1, c2], _ =>
    have h0 : DataW.trod enc Tryd.prog W 0 (fun _ => true) true n 9 (([c0, c1, c2].drop 0).take (Tryd.prog.cellsOf 9)) = xs[0]? := hel 0 _ rfl
    have h1 : DataW.trod enc Tryd.prog W 0 (fun _ => true) true n 26 (([c0, c1, c2].drop 1).take (Tryd.prog.cellsOf 26)) = xs[1]? := hel 1 _ rfl
    have h2 : DataW.trod enc Tryd.prog W 0 (fun _ => true) true n 9 (([c0, c1, c2].drop 2).take (Tryd.prog.cellsOf 9)) = xs[2]? := hel 2 _ rfl
    have k0 : Tryd.prog.cellsOf 9 = 1 := F.co9
    have k1 : Tryd.prog.cellsOf 26 = 1 := F.co26
    have hx3 : xs.length = 3 := hxs
    rw [k0] at h0 h2
    rw [k1] at h1
    rw [List.getElem?_eq_getElem (by omega)] at h0 h1 h2
    obtain ⟨s0, e0, _, _⟩ := DataW.trod_string Tryd.underlying9 h0
    obtain ⟨pv, l, e1, hsl⟩ := Sl_of_strings Tryd.underlying26 Tryd.underlying9 F.co9 h1
    obtain ⟨s2, e2, _, _⟩ := DataW.trod_string Tryd.underlying9 h2
    simp only [List.drop_zero, List.take_succ_cons, List.take_zero, List.drop_succ_cons, List.cons.injEq, and_true] at e0 e1 e2
    subst e0
    subst e1
    subst e2
    exact ⟨s0.data.toList, c1, s2.data.toList, l, by rw [string_str, string_str], hsl⟩
end Go.Proofs.Sep
