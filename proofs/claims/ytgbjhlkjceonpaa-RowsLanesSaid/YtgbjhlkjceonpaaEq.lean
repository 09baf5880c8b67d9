/- The walk of bytes.Equal. -/
import Derived.Laws.IdiomStrings
import Derived.Laws.BytesArg
import Derived.Test.YtgbjhlkjceonpaaHelp
namespace Go.Proofs.Ytgbjhlkjceonpaa.Help
open Go.RowKit Go.Proofs.Ytgbjhlkjceonpaa.K
set_option linter.unusedVariables false

theorem u_slice8 : Try.prog.underlying 22 = some (.slice 5) := by kernel_rfl
theorem u_u8 : Try.prog.underlying 5 = some (.int .u8) := by kernel_rfl
theorem u_str : Try.prog.underlying 9 = some .string := by kernel_rfl
/-- string(b) -/
theorem str_of (A : Option Addr) (c : Nat) (l : List UInt8) (w : World) (h : Bs w A c l) :
    (convert 22 9 (.slice A l.length c)).run Try.prog w = .ok (.string ⟨l.toArray⟩) w := by
  rcases A with _ | ad
  · have h0 : l = [] := by
      rcases l with _ | ⟨x, r⟩
      · rfl
      · obtain ⟨ad, h', _⟩ := h.at_ 0 (by simp)
        cases h'
    subst h0
    exact run_convert_bytes_nil w 22 5 u_slice8 u_u8 _ c 9 u_str
  · refine run_convert_bytes_back w 22 9 5 ad c l u_slice8 u_u8 u_str (fun j hj => ?_)
    obtain ⟨ad', e, _, hc⟩ := h.at_ j hj
    cases e
    simpa [hj] using hc
set_option maxRecDepth 100000 in
theorem bytesEqual (A B : Option Addr) (c d : Nat) (l m : List UInt8) (w : World) (ha : Bs w A c l) (hb : Bs w B d m) :
    Calls Try.prog 71 #[.slice A l.length c, .slice B m.length d] w (Quiet (.bool (decide (l = m))) w) := by
  have HA := str_of A c l w ha
  have HB := str_of B d m w hb
  clear ha hb
  generalize l.length = n1 at *
  generalize m.length = n2 at *
  go_enter Try.func71, Try.ntmps71
  go_wp2_with fail
  go_ret
  have e : (l == m) = decide (l = m) := by
    by_cases h : l = m <;> simp [h]
  exact ⟨0, by rw [← e]; rfl, rfl⟩
end Go.Proofs.Ytgbjhlkjceonpaa.Help
