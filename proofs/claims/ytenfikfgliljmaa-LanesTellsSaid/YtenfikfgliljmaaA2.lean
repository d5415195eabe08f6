import Derived.Test.YtenfikfgliljmaaA1
import Derived.Deep.RegionWith
import Derived.Deep.RegionLaw
import Derived.Deep.LoopGhost
namespace Go.Proofs.Ytenfikfgliljmaa
open Go.RowKit
namespace LA
theorem m_less0 (p : Nat) (w : World) : (method 225 91 (.pointer (some ⟨p, 0, none⟩)) "Less").run Try.prog w =
    (loadVar 93 ⟨p, 0, none⟩ >>= fun v => pure (78, v)).run Try.prog w := by kernel_rfl
theorem m_swap0 (p : Nat) (w : World) : (method 225 91 (.pointer (some ⟨p, 0, none⟩)) "Swap").run Try.prog w =
    (loadVar 93 ⟨p, 0, none⟩ >>= fun v => pure (81, v)).run Try.prog w := by kernel_rfl
theorem m_len0 (p : Nat) (w : World) : (method 225 91 (.pointer (some ⟨p, 0, none⟩)) "Len").run Try.prog w =
    (loadVar 93 ⟨p, 0, none⟩ >>= fun v => pure (55, v)).run Try.prog w := by kernel_rfl
theorem m_push (p : Nat) (w : World) : (method 225 91 (.pointer (some ⟨p, 0, none⟩)) "Push").run Try.prog w = .ok (80, .pointer (some ⟨p, 0, none⟩)) w := by kernel_rfl
theorem m_pop (p : Nat) (w : World) : (method 225 91 (.pointer (some ⟨p, 0, none⟩)) "Pop").run Try.prog w = .ok (79, .pointer (some ⟨p, 0, none⟩)) w := by kernel_rfl
theorem load93 (p : Nat) (w : World) (g : Option Addr) (n c : Nat) (h : w.cell? ⟨p, 0, none⟩ = some (.slice g n c)) : (loadVar 93 ⟨p, 0, none⟩).run Try.prog w = .ok (.slice g n c) w := by
  go_simp
theorem m_less (p : Nat) (w : World) (g : Option Addr) (n c : Nat) (h : w.cell? ⟨p, 0, none⟩ = some (.slice g n c)) :
    (method 225 91 (.pointer (some ⟨p, 0, none⟩)) "Less").run Try.prog w = .ok (78, .slice g n c) w := by rw [m_less0, Sem.run_bind, load93 p w g n c h]; rfl
theorem m_swap (p : Nat) (w : World) (g : Option Addr) (n c : Nat) (h : w.cell? ⟨p, 0, none⟩ = some (.slice g n c)) :
    (method 225 91 (.pointer (some ⟨p, 0, none⟩)) "Swap").run Try.prog w = .ok (81, .slice g n c) w := by rw [m_swap0, Sem.run_bind, load93 p w g n c h]; rfl
theorem m_len (p : Nat) (w : World) (g : Option Addr) (n c : Nat) (h : w.cell? ⟨p, 0, none⟩ = some (.slice g n c)) :
    (method 225 91 (.pointer (some ⟨p, 0, none⟩)) "Len").run Try.prog w = .ok (55, .slice g n c) w := by rw [m_len0, Sem.run_bind, load93 p w g n c h]; rfl
end LA
end Go.Proofs.Ytenfikfgliljmaa
