/- Which function a method call through an interface enters. -/
import Derived.Test.YtlbgmoijepknbaaDoorProg
import Derived.Test.YtlbgmoijepknbaaDoorLib
namespace Go.Proofs.YtlbgmoijepknbaaDoor
open Go.RowKit
@[go_sem] theorem m_Int_Words (w : World) (v : Value) : (method 225 36 v "Words").run Tryd.prog w = .ok (42, v) w := by kernel_rfl
@[go_sem] theorem m_Int_Encode (w : World) (v : Value) : (method 225 36 v "Encode").run Tryd.prog w = .ok (41, v) w := by kernel_rfl
@[go_sem] theorem m_Int_Decode (w : World) (v : Value) : (method 225 36 v "Decode").run Tryd.prog w = .ok (40, v) w := by kernel_rfl
@[go_sem] theorem m_Bool_Words (w : World) (v : Value) : (method 225 62 v "Words").run Tryd.prog w = .ok (47, v) w := by kernel_rfl
@[go_sem] theorem m_Bool_Encode (w : World) (v : Value) : (method 225 62 v "Encode").run Tryd.prog w = .ok (46, v) w := by kernel_rfl
@[go_sem] theorem m_Bool_Decode (w : World) (v : Value) : (method 225 62 v "Decode").run Tryd.prog w = .ok (45, v) w := by kernel_rfl
@[go_sem] theorem m_Name_Words (w : World) (v : Value) : (method 225 47 v "Words").run Tryd.prog w = .ok (21, v) w := by kernel_rfl
@[go_sem] theorem m_Name_Encode (w : World) (v : Value) : (method 225 47 v "Encode").run Tryd.prog w = .ok (43, v) w := by kernel_rfl
@[go_sem] theorem m_Name_Decode (w : World) (v : Value) : (method 225 47 v "Decode").run Tryd.prog w = .ok (13, v) w := by kernel_rfl
@[go_sem] theorem m_ArrS_Words (w : World) (v : Value) : (method 225 66 v "Words").run Tryd.prog w = .ok (50, v) w := by kernel_rfl
@[go_sem] theorem m_ArrS_Encode (w : World) (v : Value) : (method 225 66 v "Encode").run Tryd.prog w = .ok (49, v) w := by kernel_rfl
@[go_sem] theorem m_ArrS_Decode (w : World) (v : Value) : (method 225 66 v "Decode").run Tryd.prog w = .ok (48, v) w := by kernel_rfl
@[go_sem] theorem m_OptI_Words (w : World) (v : Value) : (method 225 68 v "Words").run Tryd.prog w = .ok (54, v) w := by kernel_rfl
@[go_sem] theorem m_OptI_Encode (w : World) (v : Value) : (method 225 68 v "Encode").run Tryd.prog w = .ok (53, v) w := by kernel_rfl
@[go_sem] theorem m_OptI_Decode (w : World) (v : Value) : (method 225 68 v "Decode").run Tryd.prog w = .ok (52, v) w := by kernel_rfl
@[go_sem] theorem m_PairSI_Words (w : World) (v : Value) : (method 225 74 v "Words").run Tryd.prog w = .ok (57, v) w := by kernel_rfl
@[go_sem] theorem m_PairSI_Encode (w : World) (v : Value) : (method 225 74 v "Encode").run Tryd.prog w = .ok (56, v) w := by kernel_rfl
@[go_sem] theorem m_PairSI_Decode (w : World) (v : Value) : (method 225 74 v "Decode").run Tryd.prog w = .ok (55, v) w := by kernel_rfl
@[go_sem] theorem m_PairB_Words (w : World) (v : Value) : (method 225 80 v "Words").run Tryd.prog w = .ok (62, v) w := by kernel_rfl
@[go_sem] theorem m_PairB_Encode (w : World) (v : Value) : (method 225 80 v "Encode").run Tryd.prog w = .ok (61, v) w := by kernel_rfl
@[go_sem] theorem m_PairB_Decode (w : World) (v : Value) : (method 225 80 v "Decode").run Tryd.prog w = .ok (60, v) w := by kernel_rfl
end Go.Proofs.YtlbgmoijepknbaaDoor
