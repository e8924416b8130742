/-
  Appending to own rows of one type of elements.
-/
import Derived.Test.YtengjcdilnikhaaDoorAmRw
namespace Go.Proofs.YtengjcdilnikhaaDoor
set_option linter.unusedSimpArgs false
set_option linter.unusedVariables false
set_option linter.unnecessarySimpa false
open Go Am

theorem app_fl {C : Ctx} {h : Heap} {n : Nat} {K : KT} {id ver cap len m : Nat} {es fs : List (List PD)} {x : AV} (hr : RowAt h id ver cap 6 es) (hes : okEs 6 es) (hfs : okEs 6 fs) (hx : srcA h 6 x = some (m, fs.flatten.map .p)) (hlen : len = es.length) (hm : m = fs.length) (hl : len + m ≤ 1000000)
    (k : ∀ cap' T', (es ++ fs).length * 6 + T'.length = cap' * 6 → lowCs 0 T' = true → K (.one (.win id (ver + 1) 0 (len + m) cap')) (upd h id (rowB (ver + 1) (es ++ fs) T')) n) :
    BiK Tryd.prog C .append [53, 53] [.one (.win id ver 0 len cap), x] h n K := by
  obtain ⟨T, h1, h3, h4⟩ := hr
  have hfl := okEs_len hes
  refine BiK.append_own (e := 60) (sz := 6) (bytes := 56) (m := m) (xs := fs.flatten.map .p) (blk := rowB ver es T) ty_slE_53 ty_tsz_60 ty_tzero_60 rfl ty_tby_60 ty_isIntT_53 h1 rfl
    (by rw [rowB]; simp only [List.length_append, List.length_map, hfl]; omega) hx (okEs_flat hfs _) (by omega) (by decide) (by omega) (fun cap' j q1 q2 => ?_)
  have e := row_push (sz := 6) (ver := ver + 1) (len := len) (es := es) (fs := fs) (T := T) hes hlen j
  rw [show (rowB ver es T).cells = es.flatten.map .p ++ T from rfl, e]
  exact k cap' _ (by rw [List.length_replicate, List.length_append]; omega) (lowCs_junk _ _)

theorem appN_fl {C : Ctx} {h : Heap} {n : Nat} {K : KT} {m : Nat} {fs : List (List PD)} {x : AV} (hfs : okEs 6 fs) (hx : srcA h 6 x = some (m, fs.flatten.map .p)) (hm : m = fs.length) (hl : m ≤ 1000000)
    (k : ∀ cap' T', fs.length * 6 + T'.length = cap' * 6 → lowCs 0 T' = true → K (.one (.win (C.b + n) 1 0 m cap')) (upd h (C.b + n) (rowB 1 fs T')) (n + 1)) :
    BiK Tryd.prog C .append [53, 53] [.one (.p (.v (.slice none 0 0))), x] h n K := by
  refine BiK.append_nil (e := 60) (sz := 6) (bytes := 56) (m := m) (xs := fs.flatten.map .p) ty_slE_53 ty_tsz_60 ty_tzero_60 rfl ty_tby_60 ty_isIntT_53 hx (okEs_flat hfs _) (by omega) (by decide) (by omega) (fun cap' j q1 q2 => ?_)
  exact k cap' (List.replicate j .junk) (by rw [List.length_replicate]; omega) (lowCs_junk _ _)
end Go.Proofs.YtengjcdilnikhaaDoor
