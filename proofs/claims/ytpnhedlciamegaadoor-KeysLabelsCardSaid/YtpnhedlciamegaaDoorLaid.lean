/- What the variables hold when the call begins. -/
import Derived.Test.YtpnhedlciamegaaDoorLaw14
import Derived.Test.YtpnhedlciamegaaDoorRows
import Derived.ProofKit
import Derived.LaidMore
import Derived.OpenShut
import Derived.Stop.Joined
set_option linter.all false
set_option linter.unusedSimpArgs false
set_option linter.unnecessarySimpa false
set_option linter.deprecated false
set_option maxRecDepth 100000
set_option linter.unusedVariables false
namespace Go.Proofs.Sep
open Go Go.RowKit Go.WideElems Go.WideMaps Go.WideShapes

section
variable {H : Type} {enc : TypeId × Value → H} {P : Program} {w : World} {base : Nat} {spare : Nat → Bool} {held : Bool} {fuel : Nat} {t : TypeId} {cs : List Value} {x : DataW H × List MemPlace}
/-- A table of numbers. -/
theorem ints_of_trod {n : Nat} {e : TypeId} {k : IntKind} {l : List Int} (ht : P.underlying t = some (.array n e)) (he : P.underlying e = some (.int k)) (hc : P.cellsOf e = 1) (hn : P.cellsOf t = n) (hl : l.length = n)
    (h : DataW.trod enc P w base spare held fuel t cs = some x) (hx : x.1 = .agg (l.map fun i => .lit (.int k i))) : cs = l.map (Value.int k) := by
  obtain ⟨xs, m, _, rfl, hlen, hxs, hel⟩ := DataW.trod_array ht h
  simp only [DataW.agg.injEq] at hx
  refine List.ext_getElem? fun i => ?_
  by_cases hi : i < n
  · have h1 := hel i hi
    rw [hc, Nat.mul_one] at h1
    have h2 : xs[i]? = some xs[i] := List.getElem?_eq_getElem (by omega)
    rw [h2] at h1
    obtain ⟨q, e1, e2, _⟩ := DataW.trod_int he h1
    have h3 : (xs.map (·.1))[i]? = some (.lit (.int k q)) := by rw [List.getElem?_map, h2, e2]; rfl
    rw [hx, List.getElem?_map] at h3
    obtain ⟨j, hj, hjq⟩ := Option.map_eq_some_iff.1 h3
    have hjq' : j = q := by simpa using hjq
    subst hjq'
    have h4 : cs[i]? = some (.int k j) := by
      have : ((cs.drop i).take 1)[0]? = some (.int k j) := by rw [e1]; rfl
      rw [List.getElem?_take, if_pos (by omega), List.getElem?_drop] at this
      simpa using this
    rw [h4, List.getElem?_map, hj]
    rfl
  · rw [List.getElem?_eq_none (by omega), List.getElem?_eq_none (by rw [List.length_map]; omega)]
theorem var_heap {nm : String} {g : Nat} {cs : Array Value} (hg : P.globalNamed nm = some g) (h : w.var? P nm = some cs) : ∃ t fz, w.heap[g]? = some (.cells cs t fz) := by
  simp only [World.var?, hg, Option.bind_some] at h
  split at h
  · rename_i cs' t fz hh
    cases h
    exact ⟨t, fz, hh⟩
  · cases h
theorem Pt_var {nm : String} {g : Nat} {cs : Array Value} (hg : P.globalNamed nm = some g) (h : w.var? P nm = some cs) : Pt (fun b => w.heap[b]?) (ptr g) cs.toList := by
  obtain ⟨t, fz, hh⟩ := var_heap hg h
  exact ⟨g, 0, cs, t, fz, rfl, hh, by rw [List.drop_zero]; exact List.take_length⟩
end

theorem gKs : Tryd.prog.globalNamed "cryptex/sha.ks" = some 2 := by kernel_rfl
theorem gBegin : Tryd.prog.globalNamed "cryptex/sha.begin" = some 0 := by kernel_rfl
theorem tKs : (Tryd.prog.globals[2]?).map (·.type) = some 169 := by kernel_rfl
theorem tBegin : (Tryd.prog.globals[0]?).map (·.type) = some 144 := by kernel_rfl
theorem ksD : (Go.Proofs.YtpnhedlciamegaaDoor.Rows.laid_cryptex_sha_ks : DataW Unit) = .agg (ksL.map fun i => .lit (.int .u32 i)) := rfl
theorem bgD : (Go.Proofs.YtpnhedlciamegaaDoor.Rows.laid_cryptex_sha_begin : DataW Unit) = .agg (beginS.list.map fun i => .lit (.int .u32 i)) := rfl
theorem shaG_of {W : World} {cs0 cs1 : Array Value} {f0 f1 : Nat} {p0 p1 : List MemPlace} (hv0 : W.var? Tryd.prog "cryptex/sha.ks" = some cs0) (hd0 : DataW.trod (fun _ => ()) Tryd.prog W 0 (fun _ => true) false f0 169 cs0.toList = some (Go.Proofs.YtpnhedlciamegaaDoor.Rows.laid_cryptex_sha_ks, p0))
    (hv1 : W.var? Tryd.prog "cryptex/sha.begin" = some cs1) (hd1 : DataW.trod (fun _ => ()) Tryd.prog W 0 (fun _ => true) false f1 144 cs1.toList = some (Go.Proofs.YtpnhedlciamegaaDoor.Rows.laid_cryptex_sha_begin, p1)) : ShaG (fun b => W.heap[b]?) := by
  have e0 := ints_of_trod (l := ksL) Tryd.underlying169 Tryd.underlying143 F.co143 (by kernel_rfl) rfl hd0 ksD
  have e1 := ints_of_trod (l := beginS.list) Tryd.underlying144 Tryd.underlying143 F.co143 (by kernel_rfl) rfl hd1 bgD
  refine ⟨?_, ?_⟩
  · have := Pt_var gKs hv0
    rw [e0] at this
    exact this
  · have := Pt_var gBegin hv1
    rw [e1] at this
    exact this
/-! ### what may stand below what -/
theorem gMay : Tryd.prog.globalNamed "cryptex/keys.may" = some 1 := by kernel_rfl
theorem tMay : (Tryd.prog.globals[1]?).map (·.type) = some 154 := by kernel_rfl
def belD (p : List UInt8 × Int) : DataW Unit := .agg [.lit (.string p.1), .lit (.int .i64 p.2)]
theorem below_of_trod {W : World} {m : Nat} {cs : List Value} {x : DataW Unit × List MemPlace} {p : List UInt8 × Int} (h : DataW.trod (fun _ => ()) Tryd.prog W 0 (fun _ => true) false m 152 cs = some x) (hx : x.1 = belD p) : cs = [str p.1, .int .i64 p.2] := by
  obtain ⟨xs, n, rfl, rfl, hlen, hxs, hel⟩ := DataW.trod_struct Tryd.underlying152 h
  have hlen2 : cs.length = 2 := hlen.trans (by kernel_rfl)
  have hxs2 : xs.length = 2 := hxs
  match cs, hlen2, xs, hxs2 with
  | [c0, c1], _, [x0, x1], _ =>
    have h0 : DataW.trod (fun _ => ()) Tryd.prog W 0 (fun _ => true) false n 9 (([c0, c1].drop 0).take (Tryd.prog.cellsOf 9)) = [x0, x1][0]? := hel 0 _ rfl
    have h1 : DataW.trod (fun _ => ()) Tryd.prog W 0 (fun _ => true) false n 3 (([c0, c1].drop 1).take (Tryd.prog.cellsOf 3)) = [x0, x1][1]? := hel 1 _ rfl
    have k0 : Tryd.prog.cellsOf 9 = 1 := F.co9
    have k1 : Tryd.prog.cellsOf 3 = 1 := F.co3
    rw [k0] at h0
    rw [k1] at h1
    obtain ⟨s, e0, f0, _⟩ := DataW.trod_string Tryd.underlying9 h0
    obtain ⟨q, e1, f1, _⟩ := DataW.trod_int Tryd.underlying3 h1
    simp only [List.drop_zero, List.take_succ_cons, List.take_zero, List.drop_succ_cons, List.cons.injEq, and_true] at e0 e1
    subst e0
    subst e1
    simp only [belD, List.map_cons, List.map_nil, DataW.agg.injEq, List.cons.injEq, and_true] at hx
    obtain ⟨hx0, hx1⟩ := hx
    rw [f0] at hx0
    rw [f1] at hx1
    simp only [DataW.lit.injEq, Lit.string.injEq, Lit.int.injEq, true_and] at hx0 hx1
    rw [string_str, hx0, hx1]
theorem belows_of_elem {W : World} {m : Nat} {v : Value} {y : DataW Unit × List MemPlace} {p q : List UInt8 × Int} (h : elemAt (fun _ => ()) Tryd.prog W 0 (fun _ => true) false m 153 v = some y) (hy : y.1 = .agg [belD p, belD q]) : v = .agg (belC p q).toArray := by
  unfold elemAt at h
  split at h
  · rename_i hf
    obtain ⟨xs, n, rfl, rfl, hlen, hxs, hel⟩ := DataW.trod_array Tryd.underlying153 h
    have c2 : Tryd.prog.cellsOf 152 = 2 := by kernel_rfl
    have c4 : Tryd.prog.cellsOf 153 = 4 := by kernel_rfl
    rw [c4] at hlen
    have h0 := hel 0 (by decide)
    have h1 := hel 1 (by decide)
    rw [c2] at h0 h1
    match xs, hxs with
    | [x0, x1], _ =>
      simp only [List.map_cons, List.map_nil, DataW.agg.injEq, List.cons.injEq, and_true] at hy
      have b0 := below_of_trod h0 hy.1
      have b1 := below_of_trod h1 hy.2
      have e : v.cells.toList = belC p q := by
        have e3 : v.cells.toList = (v.cells.toList.drop (0 * 2)).take 2 ++ (v.cells.toList.drop (1 * 2)).take 2 := by
          rw [Nat.zero_mul, Nat.one_mul, List.drop_zero]
          have e4 : (v.cells.toList.drop 2).take 2 = v.cells.toList.drop 2 := List.take_of_length_le (by rw [List.length_drop]; omega)
          rw [e4, List.take_append_drop]
        rw [e3, b0, b1]
        rfl
      have ha : ∃ cs, v = .agg cs := by
        cases v with
        | agg cs => exact ⟨cs, rfl⟩
        | _ => simp [Value.cells] at e hlen
      obtain ⟨cs, rfl⟩ := ha
      have e5 : cs.toList = belC p q := e
      rw [← e5]
  · cases h
theorem look_of {W : World} {cs : Array Value} {f : Nat} {p0 : List MemPlace} (hv : W.var? Tryd.prog "cryptex/keys.may" = some cs) (hd : DataW.trod (fun _ => ()) Tryd.prog W 0 (fun _ => true) false f 154 cs.toList = some (Go.Proofs.YtpnhedlciamegaaDoor.Rows.laid_cryptex_keys_may, p0))
    {kk : List UInt8} {p q : List UInt8 × Int} (hk : kk.length ≤ 100) (hat : (Go.Proofs.YtpnhedlciamegaaDoor.Rows.laid_cryptex_keys_may : DataW Unit).atKey (.string kk) .nil = .agg [belD p, belD q]) : look (fun b => W.heap[b]?) kk p q := by
  rcases open_map Tryd.underlying154 hd with ⟨_, hx⟩ | ⟨bm, es, clock, m, rfl, hcs, hb, _, Fi, hx⟩
  · simp [Go.Proofs.YtpnhedlciamegaaDoor.Rows.laid_cryptex_keys_may] at hx
  simp only [Prod.mk.injEq] at hx
  have hpt := Pt_var gMay hv
  rw [hcs] at hpt
  refine ⟨bm, hpt, fun w hw => ?_⟩
  have hbw : w.heap[bm]? = some (.map es clock) := hw bm _ hb
  have zero : ∃ z, (zeroValue 153).run Tryd.prog w = .ok z w := ⟨_, by
    obtain ⟨i0, hi, he⟩ := Option.map_eq_some_iff.1 F.ze153
    simp only [Prod.mk.injEq] at he
    simp [zeroValue, typeInfo, hi, he.1]
    rfl⟩
  obtain ⟨z, hz⟩ := zero
  have hkey : keyOf Tryd.prog 9 (str kk) = some (.string kk) := by
    have := keyOf_string_mk (s := ⟨kk.toArray⟩) Tryd.underlying9 (by rw [mk_size]; exact Nat.le_trans hk (by decide))
    exact this
  rcases fit_lookup (w := w) (string_law Tryd.underlying9) Tryd.underlying154 hz hbw Fi hkey with ⟨_, hat2⟩ | ⟨v, y, hrun, hRv, hat2, _⟩
  · have := hat2 .nil
    rw [← hx.1, hat] at this
    cases this
  · have := hat2 .nil
    rw [← hx.1, hat] at this
    rw [belows_of_elem hRv this.symm] at hrun
    exact hrun
theorem keysG_of {W : World} (h : laidMetH Tryd.prog [("cryptex/sha.ks", Go.Proofs.YtpnhedlciamegaaDoor.Rows.laid_cryptex_sha_ks), ("cryptex/sha.begin", Go.Proofs.YtpnhedlciamegaaDoor.Rows.laid_cryptex_sha_begin), ("cryptex/keys.may", Go.Proofs.YtpnhedlciamegaaDoor.Rows.laid_cryptex_keys_may)] W) : KeysG (fun b => W.heap[b]?) := by
  rw [MakeChecks.laidMetH_plain _ _ _ (by kernel_rfl)] at h
  obtain ⟨ps, ⟨g0, t0, cs0, f0, p0, q0, hg0, ht0, hv0, hd0, ⟨g1, t1, cs1, f1, p1, q1, hg1, ht1, hv1, hd1, ⟨g2, t2, cs2, f2, p2, q2, hg2, ht2, hv2, hd2, _, _⟩, _⟩, _⟩, _, _⟩ := h
  obtain rfl := Option.some.inj (gKs.symm.trans hg0)
  obtain rfl := Option.some.inj (gBegin.symm.trans hg1)
  obtain rfl := Option.some.inj (gMay.symm.trans hg2)
  obtain rfl := Option.some.inj (tKs.symm.trans ht0)
  obtain rfl := Option.some.inj (tBegin.symm.trans ht1)
  obtain rfl := Option.some.inj (tMay.symm.trans ht2)
  exact ⟨shaG_of hv0 hd0 hv1 hd1, look_of hv2 hd2 (by decide) rfl, look_of hv2 hd2 (by decide) rfl, look_of hv2 hd2 (by decide) rfl⟩
end Go.Proofs.Sep
