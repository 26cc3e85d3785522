/- Which function a method call through an interface enters. -/
import Derived.Test.YtlbgmoijepknbaaGreatProg
import Derived.Test.YtlbgmoijepknbaaGreatLib
namespace Go.Proofs.YtlbgmoijepknbaaGreat
open Go.RowKit
@[go_sem] theorem m_Int_Words (w : World) (v : Value) : (method 302 62 v "Words").run Tryz.prog w = .ok (97, v) w := by kernel_rfl
@[go_sem] theorem m_Int_Encode (w : World) (v : Value) : (method 302 62 v "Encode").run Tryz.prog w = .ok (96, v) w := by kernel_rfl
@[go_sem] theorem m_Int_Decode (w : World) (v : Value) : (method 302 62 v "Decode").run Tryz.prog w = .ok (95, v) w := by kernel_rfl
@[go_sem] theorem m_Bool_Words (w : World) (v : Value) : (method 302 81 v "Words").run Tryz.prog w = .ok (102, v) w := by kernel_rfl
@[go_sem] theorem m_Bool_Encode (w : World) (v : Value) : (method 302 81 v "Encode").run Tryz.prog w = .ok (101, v) w := by kernel_rfl
@[go_sem] theorem m_Bool_Decode (w : World) (v : Value) : (method 302 81 v "Decode").run Tryz.prog w = .ok (100, v) w := by kernel_rfl
@[go_sem] theorem m_Name_Words (w : World) (v : Value) : (method 302 74 v "Words").run Tryz.prog w = .ok (35, v) w := by kernel_rfl
@[go_sem] theorem m_Name_Encode (w : World) (v : Value) : (method 302 74 v "Encode").run Tryz.prog w = .ok (98, v) w := by kernel_rfl
@[go_sem] theorem m_Name_Decode (w : World) (v : Value) : (method 302 74 v "Decode").run Tryz.prog w = .ok (21, v) w := by kernel_rfl
@[go_sem] theorem m_ArrS_Words (w : World) (v : Value) : (method 302 85 v "Words").run Tryz.prog w = .ok (105, v) w := by kernel_rfl
@[go_sem] theorem m_ArrS_Encode (w : World) (v : Value) : (method 302 85 v "Encode").run Tryz.prog w = .ok (104, v) w := by kernel_rfl
@[go_sem] theorem m_ArrS_Decode (w : World) (v : Value) : (method 302 85 v "Decode").run Tryz.prog w = .ok (103, v) w := by kernel_rfl
@[go_sem] theorem m_OptI_Words (w : World) (v : Value) : (method 302 87 v "Words").run Tryz.prog w = .ok (109, v) w := by kernel_rfl
@[go_sem] theorem m_OptI_Encode (w : World) (v : Value) : (method 302 87 v "Encode").run Tryz.prog w = .ok (108, v) w := by kernel_rfl
@[go_sem] theorem m_OptI_Decode (w : World) (v : Value) : (method 302 87 v "Decode").run Tryz.prog w = .ok (107, v) w := by kernel_rfl
@[go_sem] theorem m_PairSI_Words (w : World) (v : Value) : (method 302 93 v "Words").run Tryz.prog w = .ok (112, v) w := by kernel_rfl
@[go_sem] theorem m_PairSI_Encode (w : World) (v : Value) : (method 302 93 v "Encode").run Tryz.prog w = .ok (111, v) w := by kernel_rfl
@[go_sem] theorem m_PairSI_Decode (w : World) (v : Value) : (method 302 93 v "Decode").run Tryz.prog w = .ok (110, v) w := by kernel_rfl
@[go_sem] theorem m_PairB_Words (w : World) (v : Value) : (method 302 99 v "Words").run Tryz.prog w = .ok (117, v) w := by kernel_rfl
@[go_sem] theorem m_PairB_Encode (w : World) (v : Value) : (method 302 99 v "Encode").run Tryz.prog w = .ok (116, v) w := by kernel_rfl
@[go_sem] theorem m_PairB_Decode (w : World) (v : Value) : (method 302 99 v "Decode").run Tryz.prog w = .ok (115, v) w := by kernel_rfl
end Go.Proofs.YtlbgmoijepknbaaGreat
