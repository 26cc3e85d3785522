/- Which function a method call through an interface enters. -/
import Derived.Test.YtlbgmoijepknbaaProg
import Derived.Test.YtlbgmoijepknbaaLib
namespace Go.Proofs.Ytlbgmoijepknbaa
open Go.RowKit
@[go_sem] theorem m_Uint_Words (w : World) (v : Value) : (method 325 78 v "Words").run Try.prog w = .ok (35, v) w := by kernel_rfl
@[go_sem] theorem m_Uint_Encode (w : World) (v : Value) : (method 325 78 v "Encode").run Try.prog w = .ok (29, v) w := by kernel_rfl
@[go_sem] theorem m_Uint_Decode (w : World) (v : Value) : (method 325 78 v "Decode").run Try.prog w = .ok (32, v) w := by kernel_rfl
@[go_sem] theorem m_Int_Words (w : World) (v : Value) : (method 325 80 v "Words").run Try.prog w = .ok (36, v) w := by kernel_rfl
@[go_sem] theorem m_Int_Encode (w : World) (v : Value) : (method 325 80 v "Encode").run Try.prog w = .ok (30, v) w := by kernel_rfl
@[go_sem] theorem m_Int_Decode (w : World) (v : Value) : (method 325 80 v "Decode").run Try.prog w = .ok (33, v) w := by kernel_rfl
@[go_sem] theorem m_Bool_Words (w : World) (v : Value) : (method 325 82 v "Words").run Try.prog w = .ok (37, v) w := by kernel_rfl
@[go_sem] theorem m_Bool_Encode (w : World) (v : Value) : (method 325 82 v "Encode").run Try.prog w = .ok (31, v) w := by kernel_rfl
@[go_sem] theorem m_Bool_Decode (w : World) (v : Value) : (method 325 82 v "Decode").run Try.prog w = .ok (34, v) w := by kernel_rfl
@[go_sem] theorem m_Name_Words (w : World) (v : Value) : (method 325 73 v "Words").run Try.prog w = .ok (39, v) w := by kernel_rfl
@[go_sem] theorem m_Name_Encode (w : World) (v : Value) : (method 325 73 v "Encode").run Try.prog w = .ok (40, v) w := by kernel_rfl
@[go_sem] theorem m_Name_Decode (w : World) (v : Value) : (method 325 73 v "Decode").run Try.prog w = .ok (42, v) w := by kernel_rfl
@[go_sem] theorem m_ArrS_Words (w : World) (v : Value) : (method 325 133 v "Words").run Try.prog w = .ok (114, v) w := by kernel_rfl
@[go_sem] theorem m_ArrS_Encode (w : World) (v : Value) : (method 325 133 v "Encode").run Try.prog w = .ok (113, v) w := by kernel_rfl
@[go_sem] theorem m_ArrS_Decode (w : World) (v : Value) : (method 325 133 v "Decode").run Try.prog w = .ok (112, v) w := by kernel_rfl
@[go_sem] theorem m_OptI_Words (w : World) (v : Value) : (method 325 135 v "Words").run Try.prog w = .ok (117, v) w := by kernel_rfl
@[go_sem] theorem m_OptI_Encode (w : World) (v : Value) : (method 325 135 v "Encode").run Try.prog w = .ok (116, v) w := by kernel_rfl
@[go_sem] theorem m_OptI_Decode (w : World) (v : Value) : (method 325 135 v "Decode").run Try.prog w = .ok (115, v) w := by kernel_rfl
@[go_sem] theorem m_PairSI_Words (w : World) (v : Value) : (method 325 141 v "Words").run Try.prog w = .ok (120, v) w := by kernel_rfl
@[go_sem] theorem m_PairSI_Encode (w : World) (v : Value) : (method 325 141 v "Encode").run Try.prog w = .ok (119, v) w := by kernel_rfl
@[go_sem] theorem m_PairSI_Decode (w : World) (v : Value) : (method 325 141 v "Decode").run Try.prog w = .ok (118, v) w := by kernel_rfl
@[go_sem] theorem m_PairB_Words (w : World) (v : Value) : (method 325 147 v "Words").run Try.prog w = .ok (125, v) w := by kernel_rfl
@[go_sem] theorem m_PairB_Encode (w : World) (v : Value) : (method 325 147 v "Encode").run Try.prog w = .ok (124, v) w := by kernel_rfl
@[go_sem] theorem m_PairB_Decode (w : World) (v : Value) : (method 325 147 v "Decode").run Try.prog w = .ok (123, v) w := by kernel_rfl
@[go_sem] theorem m_own_Words (w : World) (v : Value) : (method 325 47 v "Words").run Try.prog w = .ok (107, v) w := by kernel_rfl
@[go_sem] theorem m_own_Encode (w : World) (v : Value) : (method 325 47 v "Encode").run Try.prog w = .ok (106, v) w := by kernel_rfl
@[go_sem] theorem m_own_Decode (w : World) (v : Value) : (method 325 47 v "Decode").run Try.prog w = .ok (105, v) w := by kernel_rfl
end Go.Proofs.Ytlbgmoijepknbaa
