/- The relax seat: Rb. Conditions: none. -/
import Derived.Test.YtmekfllddifglaaDoorP11
set_option linter.unusedVariables false
set_option linter.unusedSimpArgs false
/- The relax seat: what is told of its functions (written by mkrb.py). Conditions: none. -/
set_option linter.unusedVariables false
set_option maxRecDepth 4000
namespace Go.Proofs.YtmekfllddifglaaDoor.AM
open Go
def i3 : FInfo := ⟨[], 0, [], [(0, ⟨[0, 7, 9, 10], [7], [], []⟩)], [], []⟩
@[simp] theorem nm3 : i3.nm = [(0, ⟨[0, 7, 9, 10], [7], [], []⟩)] := rfl
@[simp] theorem sus3 : i3.sus = [] := rfl
def i4 : FInfo := ⟨[], 0, [], [(0, ⟨[0, 1, 2, 7, 8], [7], [(7, 1, 3)], []⟩)], [], []⟩
@[simp] theorem nm4 : i4.nm = [(0, ⟨[0, 1, 2, 7, 8], [7], [(7, 1, 3)], []⟩)] := rfl
@[simp] theorem sus4 : i4.sus = [] := rfl
def i5 : FInfo := ⟨[], 0, [(12, [(3, [0]), (5, [0, 4]), (6, [0, 3, 4]), (10, [0, 4, 6, 7])])], [(0, ⟨[0, 1, 2, 3, 9], [], [], []⟩), (2, ⟨[0, 10, 13, 15, 17], [13, 15], [], []⟩)], [], []⟩
@[simp] theorem nm5 : i5.nm = [(0, ⟨[0, 1, 2, 3, 9], [], [], []⟩), (2, ⟨[0, 10, 13, 15, 17], [13, 15], [], []⟩)] := rfl
@[simp] theorem sus5 : i5.sus = [(12, [(3, [0]), (5, [0, 4]), (6, [0, 3, 4]), (10, [0, 4, 6, 7])])] := rfl
def i6 : FInfo := ⟨[], 0, [(7, [(7, [6])]), (12, [(5, [2, 3])])], [(0, ⟨[0, 1, 11], [], [], []⟩)], [], []⟩
@[simp] theorem nm6 : i6.nm = [(0, ⟨[0, 1, 11], [], [], []⟩)] := rfl
@[simp] theorem sus6 : i6.sus = [(7, [(7, [6])]), (12, [(5, [2, 3])])] := rfl
def i7 : FInfo := ⟨[], 0, [(2, [(1, [0]), (2, [0]), (3, [0, 1, 2]), (9, [0, 1, 2, 3, 4, 5])]), (3, [(1, [0]), (2, [0]), (3, [0, 1, 2]), (9, [0, 1, 2, 3, 4, 5])])], [], [], []⟩
@[simp] theorem nm7 : i7.nm = [] := rfl
@[simp] theorem sus7 : i7.sus = [(2, [(1, [0]), (2, [0]), (3, [0, 1, 2]), (9, [0, 1, 2, 3, 4, 5])]), (3, [(1, [0]), (2, [0]), (3, [0, 1, 2]), (9, [0, 1, 2, 3, 4, 5])])] := rfl
def i8 : FInfo := ⟨[], 0, [], [], [], []⟩
@[simp] theorem nm8 : i8.nm = [] := rfl
@[simp] theorem sus8 : i8.sus = [] := rfl
def i9 : FInfo := ⟨[], 0, [(6, [(6, [1, 2, 3])]), (12, [(1, [0]), (3, [1])])], [(0, ⟨[6, 7, 8, 22, 23, 24], [6, 21], [], []⟩)], [], []⟩
@[simp] theorem nm9 : i9.nm = [(0, ⟨[6, 7, 8, 22, 23, 24], [6, 21], [], []⟩)] := rfl
@[simp] theorem sus9 : i9.sus = [(6, [(6, [1, 2, 3])]), (12, [(1, [0]), (3, [1])])] := rfl
def i10 : FInfo := ⟨[], 0, [], [(0, ⟨[0, 3, 4], [3], [(3, 3, 74)], []⟩)], [], []⟩
@[simp] theorem nm10 : i10.nm = [(0, ⟨[0, 3, 4], [3], [(3, 3, 74)], []⟩)] := rfl
@[simp] theorem sus10 : i10.sus = [] := rfl
def i11 : FInfo := ⟨[], 0, [], [], [], []⟩
@[simp] theorem nm11 : i11.nm = [] := rfl
@[simp] theorem sus11 : i11.sus = [] := rfl
def i12 : FInfo := ⟨[], 0, [], [(0, ⟨[0, 1, 9, 13, 14], [13], [], []⟩)], [], []⟩
@[simp] theorem nm12 : i12.nm = [(0, ⟨[0, 1, 9, 13, 14], [13], [], []⟩)] := rfl
@[simp] theorem sus12 : i12.sus = [] := rfl
def i13 : FInfo := ⟨[], 0, [], [(0, ⟨[0, 1, 5], [], [], []⟩)], [], []⟩
@[simp] theorem nm13 : i13.nm = [(0, ⟨[0, 1, 5], [], [], []⟩)] := rfl
@[simp] theorem sus13 : i13.sus = [] := rfl
def i14 : FInfo := ⟨[], 0, [], [], [], []⟩
@[simp] theorem nm14 : i14.nm = [] := rfl
@[simp] theorem sus14 : i14.sus = [] := rfl
def i15 : FInfo := ⟨[], 0, [(12, [(1, [0]), (2, [1])]), (15, [(1, [0]), (2, [1])])], [(0, ⟨[0, 1, 2, 6, 7, 8, 9], [6, 7, 8], [], [(8, [], 0, 1, 3)]⟩), (2, ⟨[0, 1, 2, 6, 7, 8], [6, 7, 8], [], []⟩), (4, ⟨[0, 1, 2, 6, 7, 8, 11, 13, 15, 16, 17, 18], [6, 7, 8, 15, 17], [], []⟩)], [], []⟩
@[simp] theorem nm15 : i15.nm = [(0, ⟨[0, 1, 2, 6, 7, 8, 9], [6, 7, 8], [], [(8, [], 0, 1, 3)]⟩), (2, ⟨[0, 1, 2, 6, 7, 8], [6, 7, 8], [], []⟩), (4, ⟨[0, 1, 2, 6, 7, 8, 11, 13, 15, 16, 17, 18], [6, 7, 8, 15, 17], [], []⟩)] := rfl
@[simp] theorem sus15 : i15.sus = [(12, [(1, [0]), (2, [1])]), (15, [(1, [0]), (2, [1])])] := rfl
def i16 : FInfo := ⟨[], 0, [], [], [], []⟩
@[simp] theorem nm16 : i16.nm = [] := rfl
@[simp] theorem sus16 : i16.sus = [] := rfl
def i17 : FInfo := ⟨[], 0, [], [(0, ⟨[2, 3, 4], [2, 3], [], []⟩)], [], []⟩
@[simp] theorem nm17 : i17.nm = [(0, ⟨[2, 3, 4], [2, 3], [], []⟩)] := rfl
@[simp] theorem sus17 : i17.sus = [] := rfl
def i18 : FInfo := ⟨[], 0, [], [(0, ⟨[2, 8, 9, 10], [2], [], []⟩)], [], []⟩
@[simp] theorem nm18 : i18.nm = [(0, ⟨[2, 8, 9, 10], [2], [], []⟩)] := rfl
@[simp] theorem sus18 : i18.sus = [] := rfl
def i19 : FInfo := ⟨[], 0, [], [(0, ⟨[1, 2, 6], [2], [], []⟩)], [], []⟩
@[simp] theorem nm19 : i19.nm = [(0, ⟨[1, 2, 6], [2], [], []⟩)] := rfl
@[simp] theorem sus19 : i19.sus = [] := rfl
def i20 : FInfo := ⟨[], 0, [], [(0, ⟨[0, 3, 4], [], [], []⟩)], [], []⟩
@[simp] theorem nm20 : i20.nm = [(0, ⟨[0, 3, 4], [], [], []⟩)] := rfl
@[simp] theorem sus20 : i20.sus = [] := rfl
def i21 : FInfo := ⟨[], 0, [], [], [], []⟩
@[simp] theorem nm21 : i21.nm = [] := rfl
@[simp] theorem sus21 : i21.sus = [] := rfl
def i22 : FInfo := ⟨[], 0, [], [], [], []⟩
@[simp] theorem nm22 : i22.nm = [] := rfl
@[simp] theorem sus22 : i22.sus = [] := rfl
noncomputable def lc23 : LoopC := ⟨#[13, 14], lcA Tryd.f23 0, lcB Tryd.f23 0, susL [(13, [(9, [0])])]⟩
@[simp] theorem lc23_ps : lc23.ps = #[13, 14] := rfl
@[simp] theorem lc23_asg : lc23.asg = lcA Tryd.f23 0 := rfl
@[simp] theorem lc23_body : lc23.body = lcB Tryd.f23 0 := rfl
@[simp] theorem lc23_sus : lc23.sus = susL [(13, [(9, [0])])] := rfl
noncomputable def rg23 : RgD := ⟨.tmp 12, 94, 99, 49, [], [(0, ⟨[0, 1], [0, 1, 2, 3, 4, 94, 96], [], []⟩)], lc23⟩
noncomputable def i23 : FInfo := ⟨[true, false, false], 26, [(13, [(9, [0])])], [], [(36, 95, [])], [(0, rg23)]⟩
@[simp] theorem nm23 : i23.nm = [] := rfl
@[simp] theorem sus23 : i23.sus = [(13, [(9, [0])])] := rfl
theorem inl23 : i23.inl = [(36, 95, [])] := rfl
theorem rgs23 : i23.rg = [(0, rg23)] := rfl
def i24 : FInfo := ⟨[false, true], 0, [], [], [], []⟩
@[simp] theorem nm24 : i24.nm = [] := rfl
@[simp] theorem sus24 : i24.sus = [] := rfl
def i25 : FInfo := ⟨[], 0, [], [(0, ⟨[0, 1, 2, 7, 8, 9, 10], [7, 9], [], []⟩)], [], []⟩
@[simp] theorem nm25 : i25.nm = [(0, ⟨[0, 1, 2, 7, 8, 9, 10], [7, 9], [], []⟩)] := rfl
@[simp] theorem sus25 : i25.sus = [] := rfl
def i26 : FInfo := ⟨[], 0, [], [(0, ⟨[0, 1, 2, 7, 8, 9], [7, 8], [(8, 3, 72)], []⟩), (2, ⟨[0, 1, 2, 7, 8, 9, 10, 11], [7, 8, 10], [], []⟩), (4, ⟨[0, 1, 2, 7, 8, 9, 10, 12], [7, 8, 10], [], []⟩)], [], []⟩
@[simp] theorem nm26 : i26.nm = [(0, ⟨[0, 1, 2, 7, 8, 9], [7, 8], [(8, 3, 72)], []⟩), (2, ⟨[0, 1, 2, 7, 8, 9, 10, 11], [7, 8, 10], [], []⟩), (4, ⟨[0, 1, 2, 7, 8, 9, 10, 12], [7, 8, 10], [], []⟩)] := rfl
@[simp] theorem sus26 : i26.sus = [] := rfl
def i27 : FInfo := ⟨[], 0, [], [(0, ⟨[1, 2, 3, 7, 8, 9], [3], [], []⟩)], [], []⟩
@[simp] theorem nm27 : i27.nm = [(0, ⟨[1, 2, 3, 7, 8, 9], [3], [], []⟩)] := rfl
@[simp] theorem sus27 : i27.sus = [] := rfl
def i28 : FInfo := ⟨[], 0, [], [], [], []⟩
@[simp] theorem nm28 : i28.nm = [] := rfl
@[simp] theorem sus28 : i28.sus = [] := rfl
def i29 : FInfo := ⟨[], 0, [], [], [], []⟩
@[simp] theorem nm29 : i29.nm = [] := rfl
@[simp] theorem sus29 : i29.sus = [] := rfl
def i30 : FInfo := ⟨[], 0, [], [(0, ⟨[1, 6, 7], [], [], []⟩)], [], []⟩
@[simp] theorem nm30 : i30.nm = [(0, ⟨[1, 6, 7], [], [], []⟩)] := rfl
@[simp] theorem sus30 : i30.sus = [] := rfl
def i31 : FInfo := ⟨[], 0, [], [(0, ⟨[0, 1, 5], [], [], []⟩)], [], []⟩
@[simp] theorem nm31 : i31.nm = [(0, ⟨[0, 1, 5], [], [], []⟩)] := rfl
@[simp] theorem sus31 : i31.sus = [] := rfl
def i32 : FInfo := ⟨[], 0, [], [(0, ⟨[0, 1, 5], [], [], []⟩)], [], []⟩
@[simp] theorem nm32 : i32.nm = [(0, ⟨[0, 1, 5], [], [], []⟩)] := rfl
@[simp] theorem sus32 : i32.sus = [] := rfl
def i33 : FInfo := ⟨[], 0, [], [(0, ⟨[0, 1, 5], [], [], []⟩)], [], []⟩
@[simp] theorem nm33 : i33.nm = [(0, ⟨[0, 1, 5], [], [], []⟩)] := rfl
@[simp] theorem sus33 : i33.sus = [] := rfl
def i34 : FInfo := ⟨[], 0, [], [], [], []⟩
@[simp] theorem nm34 : i34.nm = [] := rfl
@[simp] theorem sus34 : i34.sus = [] := rfl
def i35 : FInfo := ⟨[], 0, [], [], [], []⟩
@[simp] theorem nm35 : i35.nm = [] := rfl
@[simp] theorem sus35 : i35.sus = [] := rfl
def i36 : FInfo := ⟨[true], 0, [], [], [], []⟩
@[simp] theorem nm36 : i36.nm = [] := rfl
@[simp] theorem sus36 : i36.sus = [] := rfl
def i37 : FInfo := ⟨[], 0, [], [(0, ⟨[0, 1, 8, 16, 17, 18], [15], [], []⟩), (2, ⟨[1, 8, 11, 26, 27, 28], [11, 15], [(11, 3, 74)], []⟩)], [], []⟩
@[simp] theorem nm37 : i37.nm = [(0, ⟨[0, 1, 8, 16, 17, 18], [15], [], []⟩), (2, ⟨[1, 8, 11, 26, 27, 28], [11, 15], [(11, 3, 74)], []⟩)] := rfl
@[simp] theorem sus37 : i37.sus = [] := rfl
def i38 : FInfo := ⟨[], 0, [(24, [(8, [0, 1, 2, 3, 5, 6])])], [(0, ⟨[0, 6, 21, 22, 23], [20], [], []⟩), (2, ⟨[0, 6, 43, 44, 45], [20], [], []⟩), (4, ⟨[6, 15, 68, 69, 70], [15, 20], [(15, 3, 122)], []⟩)], [], []⟩
@[simp] theorem nm38 : i38.nm = [(0, ⟨[0, 6, 21, 22, 23], [20], [], []⟩), (2, ⟨[0, 6, 43, 44, 45], [20], [], []⟩), (4, ⟨[6, 15, 68, 69, 70], [15, 20], [(15, 3, 122)], []⟩)] := rfl
@[simp] theorem sus38 : i38.sus = [(24, [(8, [0, 1, 2, 3, 5, 6])])] := rfl
def i39 : FInfo := ⟨[true, false], 0, [(8, [(16, [1, 2, 3, 4, 5, 6, 7, 9, 10, 11, 12, 13, 14, 15]), (17, [9, 10, 11, 12, 13, 14, 15])])], [(0, ⟨[0, 1, 5, 16, 17, 18], [0], [], []⟩)], [], []⟩
@[simp] theorem nm39 : i39.nm = [(0, ⟨[0, 1, 5, 16, 17, 18], [0], [], []⟩)] := rfl
@[simp] theorem sus39 : i39.sus = [(8, [(16, [1, 2, 3, 4, 5, 6, 7, 9, 10, 11, 12, 13, 14, 15]), (17, [9, 10, 11, 12, 13, 14, 15])])] := rfl
def i44 : FInfo := ⟨[], 0, [], [], [], []⟩
@[simp] theorem nm44 : i44.nm = [] := rfl
@[simp] theorem sus44 : i44.sus = [] := rfl
def i47 : FInfo := ⟨[], 0, [], [], [], []⟩
@[simp] theorem nm47 : i47.nm = [] := rfl
@[simp] theorem sus47 : i47.sus = [] := rfl
def i48 : FInfo := ⟨[true], 0, [], [], [], []⟩
@[simp] theorem nm48 : i48.nm = [] := rfl
@[simp] theorem sus48 : i48.sus = [] := rfl
def i49 : FInfo := ⟨[], 0, [], [(0, ⟨[0, 1], [0, 1, 2, 3, 4, 94, 96], [], []⟩)], [], []⟩
@[simp] theorem nm49 : i49.nm = [(0, ⟨[0, 1], [0, 1, 2, 3, 4, 94, 96], [], []⟩)] := rfl
@[simp] theorem sus49 : i49.sus = [] := rfl
noncomputable def lc50 : LoopC := ⟨#[23, 24], lcA Tryd.f50 0, lcB Tryd.f50 0, susL [(8, [(2, [0])]), (9, [(2, [0, 1])])]⟩
@[simp] theorem lc50_ps : lc50.ps = #[23, 24] := rfl
@[simp] theorem lc50_asg : lc50.asg = lcA Tryd.f50 0 := rfl
@[simp] theorem lc50_body : lc50.body = lcB Tryd.f50 0 := rfl
@[simp] theorem lc50_sus : lc50.sus = susL [(8, [(2, [0])]), (9, [(2, [0, 1])])] := rfl
noncomputable def rg50 : RgD := ⟨.tmp 22, 43, 52, 73, [], [(0, ⟨[0, 1, 2, 3, 5, 14, 15, 16], [1, 6, 7, 8, 43, 47, 48, 49], [], []⟩)], lc50⟩
noncomputable def i50 : FInfo := ⟨[false, true, false], 92, [(8, [(2, [0])]), (9, [(2, [0, 1])])], [], [(58, 44, [])], [(0, rg50)]⟩
@[simp] theorem nm50 : i50.nm = [] := rfl
@[simp] theorem sus50 : i50.sus = [(8, [(2, [0])]), (9, [(2, [0, 1])])] := rfl
theorem inl50 : i50.inl = [(58, 44, [])] := rfl
theorem rgs50 : i50.rg = [(0, rg50)] := rfl
def i51 : FInfo := ⟨[], 0, [], [], [], []⟩
@[simp] theorem nm51 : i51.nm = [] := rfl
@[simp] theorem sus51 : i51.sus = [] := rfl
def i52 : FInfo := ⟨[], 0, [], [], [], []⟩
@[simp] theorem nm52 : i52.nm = [] := rfl
@[simp] theorem sus52 : i52.sus = [] := rfl
def i53 : FInfo := ⟨[], 0, [], [], [], []⟩
@[simp] theorem nm53 : i53.nm = [] := rfl
@[simp] theorem sus53 : i53.sus = [] := rfl
def i56 : FInfo := ⟨[true, false, false, false], 0, [], [], [], []⟩
@[simp] theorem nm56 : i56.nm = [] := rfl
@[simp] theorem sus56 : i56.sus = [] := rfl
def i57 : FInfo := ⟨[], 0, [], [], [], []⟩
@[simp] theorem nm57 : i57.nm = [] := rfl
@[simp] theorem sus57 : i57.sus = [] := rfl
def i58 : FInfo := ⟨[], 0, [], [], [], []⟩
@[simp] theorem nm58 : i58.nm = [] := rfl
@[simp] theorem sus58 : i58.sus = [] := rfl
def i59 : FInfo := ⟨[], 0, [], [], [], []⟩
@[simp] theorem nm59 : i59.nm = [] := rfl
@[simp] theorem sus59 : i59.sus = [] := rfl
def i60 : FInfo := ⟨[], 0, [], [], [], []⟩
@[simp] theorem nm60 : i60.nm = [] := rfl
@[simp] theorem sus60 : i60.sus = [] := rfl
def i61 : FInfo := ⟨[], 0, [], [(0, ⟨[1, 6, 7, 11, 12, 13], [], [], []⟩)], [], []⟩
@[simp] theorem nm61 : i61.nm = [(0, ⟨[1, 6, 7, 11, 12, 13], [], [], []⟩)] := rfl
@[simp] theorem sus61 : i61.sus = [] := rfl
def i62 : FInfo := ⟨[true, false, false], 0, [(6, [(15, [4])])], [], [], []⟩
@[simp] theorem nm62 : i62.nm = [] := rfl
@[simp] theorem sus62 : i62.sus = [(6, [(15, [4])])] := rfl
def i63 : FInfo := ⟨[true, false, false], 0, [(10, [(17, [5])])], [], [], []⟩
@[simp] theorem nm63 : i63.nm = [] := rfl
@[simp] theorem sus63 : i63.sus = [(10, [(17, [5])])] := rfl
def i64 : FInfo := ⟨[true, false, false], 0, [(10, [(17, [5])])], [], [], []⟩
@[simp] theorem nm64 : i64.nm = [] := rfl
@[simp] theorem sus64 : i64.sus = [(10, [(17, [5])])] := rfl
def i65 : FInfo := ⟨[true, false, false], 0, [], [], [], []⟩
@[simp] theorem nm65 : i65.nm = [] := rfl
@[simp] theorem sus65 : i65.sus = [] := rfl
def i66 : FInfo := ⟨[true, false, false], 0, [], [], [], []⟩
@[simp] theorem nm66 : i66.nm = [] := rfl
@[simp] theorem sus66 : i66.sus = [] := rfl
def i67 : FInfo := ⟨[true, false, false], 0, [(11, [(15, [4])]), (17, [(15, [4])]), (23, [(15, [4])])], [], [], []⟩
@[simp] theorem nm67 : i67.nm = [] := rfl
@[simp] theorem sus67 : i67.sus = [(11, [(15, [4])]), (17, [(15, [4])]), (23, [(15, [4])])] := rfl
def i68 : FInfo := ⟨[], 0, [], [], [], []⟩
@[simp] theorem nm68 : i68.nm = [] := rfl
@[simp] theorem sus68 : i68.sus = [] := rfl
def i69 : FInfo := ⟨[true, false, false, false], 0, [], [], [], []⟩
@[simp] theorem nm69 : i69.nm = [] := rfl
@[simp] theorem sus69 : i69.sus = [] := rfl
def i70 : FInfo := ⟨[true, false, false, false], 0, [], [], [], []⟩
@[simp] theorem nm70 : i70.nm = [] := rfl
@[simp] theorem sus70 : i70.sus = [] := rfl
def i71 : FInfo := ⟨[], 0, [], [], [], []⟩
@[simp] theorem nm71 : i71.nm = [] := rfl
@[simp] theorem sus71 : i71.sus = [] := rfl
def i72 : FInfo := ⟨[], 0, [], [], [], []⟩
@[simp] theorem nm72 : i72.nm = [] := rfl
@[simp] theorem sus72 : i72.sus = [] := rfl
def i73 : FInfo := ⟨[], 0, [], [(0, ⟨[0, 1, 2, 3, 5, 14, 15, 16], [1, 6, 7, 8, 43, 47, 48, 49], [], []⟩)], [], []⟩
@[simp] theorem nm73 : i73.nm = [(0, ⟨[0, 1, 2, 3, 5, 14, 15, 16], [1, 6, 7, 8, 43, 47, 48, 49], [], []⟩)] := rfl
@[simp] theorem sus73 : i73.sus = [] := rfl
def i74 : FInfo := ⟨[], 0, [], [], [], []⟩
@[simp] theorem nm74 : i74.nm = [] := rfl
@[simp] theorem sus74 : i74.sus = [] := rfl
def i75 : FInfo := ⟨[], 0, [], [], [], []⟩
@[simp] theorem nm75 : i75.nm = [] := rfl
@[simp] theorem sus75 : i75.sus = [] := rfl
def i76 : FInfo := ⟨[], 0, [], [(0, ⟨[0, 1, 7, 8], [], [], []⟩)], [], []⟩
@[simp] theorem nm76 : i76.nm = [(0, ⟨[0, 1, 7, 8], [], [], []⟩)] := rfl
@[simp] theorem sus76 : i76.sus = [] := rfl
def i77 : FInfo := ⟨[], 0, [], [], [], []⟩
@[simp] theorem nm77 : i77.nm = [] := rfl
@[simp] theorem sus77 : i77.sus = [] := rfl
def i78 : FInfo := ⟨[true, false, false, false], 0, [(6, [(21, [7])])], [], [], []⟩
@[simp] theorem nm78 : i78.nm = [] := rfl
@[simp] theorem sus78 : i78.sus = [(6, [(21, [7])])] := rfl
def i79 : FInfo := ⟨[], 0, [], [], [], []⟩
@[simp] theorem nm79 : i79.nm = [] := rfl
@[simp] theorem sus79 : i79.sus = [] := rfl
def i80 : FInfo := ⟨[], 0, [], [], [], []⟩
@[simp] theorem nm80 : i80.nm = [] := rfl
@[simp] theorem sus80 : i80.sus = [] := rfl
def i81 : FInfo := ⟨[true, false, true], 0, [], [], [], []⟩
@[simp] theorem nm81 : i81.nm = [] := rfl
@[simp] theorem sus81 : i81.sus = [] := rfl
def i82 : FInfo := ⟨[true, false, false, false, true], 0, [], [], [], []⟩
@[simp] theorem nm82 : i82.nm = [] := rfl
@[simp] theorem sus82 : i82.sus = [] := rfl
def i83 : FInfo := ⟨[], 0, [], [], [], []⟩
@[simp] theorem nm83 : i83.nm = [] := rfl
@[simp] theorem sus83 : i83.sus = [] := rfl
def i84 : FInfo := ⟨[], 0, [], [], [], []⟩
@[simp] theorem nm84 : i84.nm = [] := rfl
@[simp] theorem sus84 : i84.sus = [] := rfl
def i85 : FInfo := ⟨[true, false, false, true], 0, [], [], [], []⟩
@[simp] theorem nm85 : i85.nm = [] := rfl
@[simp] theorem sus85 : i85.sus = [] := rfl
noncomputable def infoR (f : FuncId) : Option FInfo := match f with
  | 3 => some i3
  | 4 => some i4
  | 5 => some i5
  | 6 => some i6
  | 7 => some i7
  | 8 => some i8
  | 9 => some i9
  | 10 => some i10
  | 11 => some i11
  | 12 => some i12
  | 13 => some i13
  | 14 => some i14
  | 15 => some i15
  | 16 => some i16
  | 17 => some i17
  | 18 => some i18
  | 19 => some i19
  | 20 => some i20
  | 21 => some i21
  | 22 => some i22
  | 23 => some i23
  | 24 => some i24
  | 25 => some i25
  | 26 => some i26
  | 27 => some i27
  | 28 => some i28
  | 29 => some i29
  | 30 => some i30
  | 31 => some i31
  | 32 => some i32
  | 33 => some i33
  | 34 => some i34
  | 35 => some i35
  | 36 => some i36
  | 37 => some i37
  | 38 => some i38
  | 39 => some i39
  | 44 => some i44
  | 47 => some i47
  | 48 => some i48
  | 49 => some i49
  | 50 => some i50
  | 51 => some i51
  | 52 => some i52
  | 53 => some i53
  | 56 => some i56
  | 57 => some i57
  | 58 => some i58
  | 59 => some i59
  | 60 => some i60
  | 61 => some i61
  | 62 => some i62
  | 63 => some i63
  | 64 => some i64
  | 65 => some i65
  | 66 => some i66
  | 67 => some i67
  | 68 => some i68
  | 69 => some i69
  | 70 => some i70
  | 71 => some i71
  | 72 => some i72
  | 73 => some i73
  | 74 => some i74
  | 75 => some i75
  | 76 => some i76
  | 77 => some i77
  | 78 => some i78
  | 79 => some i79
  | 80 => some i80
  | 81 => some i81
  | 82 => some i82
  | 83 => some i83
  | 84 => some i84
  | 85 => some i85
  | _ => none
/-- What is told outright: a table of its own, to be joined later. -/
structure Nats where
  F : Tbl → FuncId → Option FnA
  off : ∀ T f, f ≠ 24 → f ≠ 34 → F T f = none
noncomputable def DR (G : Gl) (N : Nats) : Desc := ⟨Tryd.prog, G, infoR, N.F⟩
theorem run3 (G : Gl) (N : Nats) (k : Nat) (args : List AV) (S : Subs) : rn (DR G N) (k + 1) 3 args S = finF S.length Tryd.prog Tryd.f3.results.toList (acode G (carry Tryd.prog (tbl (DR G N) k)) i3.hints 0 (bodyOf Tryd.f3) ⟨args ++ List.replicate (Tryd.f3.ntmps - args.length) .dead, pad S (Tryd.f3.ntmps + 0)⟩) :=
  rn_run (D := DR G N) (i := i3) rfl (fun T => N.off T 3 (by decide) (by decide)) Tryd.func3 rfl k args S
theorem run4 (G : Gl) (N : Nats) (k : Nat) (args : List AV) (S : Subs) : rn (DR G N) (k + 1) 4 args S = finF S.length Tryd.prog Tryd.f4.results.toList (acode G (carry Tryd.prog (tbl (DR G N) k)) i4.hints 0 (bodyOf Tryd.f4) ⟨args ++ List.replicate (Tryd.f4.ntmps - args.length) .dead, pad S (Tryd.f4.ntmps + 0)⟩) :=
  rn_run (D := DR G N) (i := i4) rfl (fun T => N.off T 4 (by decide) (by decide)) Tryd.func4 rfl k args S
theorem run5 (G : Gl) (N : Nats) (k : Nat) (args : List AV) (S : Subs) : rn (DR G N) (k + 1) 5 args S = finF S.length Tryd.prog Tryd.f5.results.toList (acode G (carry Tryd.prog (tbl (DR G N) k)) i5.hints 0 (bodyOf Tryd.f5) ⟨args ++ List.replicate (Tryd.f5.ntmps - args.length) .dead, pad S (Tryd.f5.ntmps + 0)⟩) :=
  rn_run (D := DR G N) (i := i5) rfl (fun T => N.off T 5 (by decide) (by decide)) Tryd.func5 rfl k args S
theorem run6 (G : Gl) (N : Nats) (k : Nat) (args : List AV) (S : Subs) : rn (DR G N) (k + 1) 6 args S = finF S.length Tryd.prog Tryd.f6.results.toList (acode G (carry Tryd.prog (tbl (DR G N) k)) i6.hints 0 (bodyOf Tryd.f6) ⟨args ++ List.replicate (Tryd.f6.ntmps - args.length) .dead, pad S (Tryd.f6.ntmps + 0)⟩) :=
  rn_run (D := DR G N) (i := i6) rfl (fun T => N.off T 6 (by decide) (by decide)) Tryd.func6 rfl k args S
theorem run7 (G : Gl) (N : Nats) (k : Nat) (args : List AV) (S : Subs) : rn (DR G N) (k + 1) 7 args S = finF S.length Tryd.prog Tryd.f7.results.toList (acode G (carry Tryd.prog (tbl (DR G N) k)) i7.hints 0 (bodyOf Tryd.f7) ⟨args ++ List.replicate (Tryd.f7.ntmps - args.length) .dead, pad S (Tryd.f7.ntmps + 0)⟩) :=
  rn_run (D := DR G N) (i := i7) rfl (fun T => N.off T 7 (by decide) (by decide)) Tryd.func7 rfl k args S
theorem run8 (G : Gl) (N : Nats) (k : Nat) (args : List AV) (S : Subs) : rn (DR G N) (k + 1) 8 args S = finF S.length Tryd.prog Tryd.f8.results.toList (acode G (carry Tryd.prog (tbl (DR G N) k)) i8.hints 0 (bodyOf Tryd.f8) ⟨args ++ List.replicate (Tryd.f8.ntmps - args.length) .dead, pad S (Tryd.f8.ntmps + 0)⟩) :=
  rn_run (D := DR G N) (i := i8) rfl (fun T => N.off T 8 (by decide) (by decide)) Tryd.func8 rfl k args S
theorem run9 (G : Gl) (N : Nats) (k : Nat) (args : List AV) (S : Subs) : rn (DR G N) (k + 1) 9 args S = finF S.length Tryd.prog Tryd.f9.results.toList (acode G (carry Tryd.prog (tbl (DR G N) k)) i9.hints 0 (bodyOf Tryd.f9) ⟨args ++ List.replicate (Tryd.f9.ntmps - args.length) .dead, pad S (Tryd.f9.ntmps + 0)⟩) :=
  rn_run (D := DR G N) (i := i9) rfl (fun T => N.off T 9 (by decide) (by decide)) Tryd.func9 rfl k args S
theorem run10 (G : Gl) (N : Nats) (k : Nat) (args : List AV) (S : Subs) : rn (DR G N) (k + 1) 10 args S = finF S.length Tryd.prog Tryd.f10.results.toList (acode G (carry Tryd.prog (tbl (DR G N) k)) i10.hints 0 (bodyOf Tryd.f10) ⟨args ++ List.replicate (Tryd.f10.ntmps - args.length) .dead, pad S (Tryd.f10.ntmps + 0)⟩) :=
  rn_run (D := DR G N) (i := i10) rfl (fun T => N.off T 10 (by decide) (by decide)) Tryd.func10 rfl k args S
theorem run11 (G : Gl) (N : Nats) (k : Nat) (args : List AV) (S : Subs) : rn (DR G N) (k + 1) 11 args S = finF S.length Tryd.prog Tryd.f11.results.toList (acode G (carry Tryd.prog (tbl (DR G N) k)) i11.hints 0 (bodyOf Tryd.f11) ⟨args ++ List.replicate (Tryd.f11.ntmps - args.length) .dead, pad S (Tryd.f11.ntmps + 0)⟩) :=
  rn_run (D := DR G N) (i := i11) rfl (fun T => N.off T 11 (by decide) (by decide)) Tryd.func11 rfl k args S
theorem run12 (G : Gl) (N : Nats) (k : Nat) (args : List AV) (S : Subs) : rn (DR G N) (k + 1) 12 args S = finF S.length Tryd.prog Tryd.f12.results.toList (acode G (carry Tryd.prog (tbl (DR G N) k)) i12.hints 0 (bodyOf Tryd.f12) ⟨args ++ List.replicate (Tryd.f12.ntmps - args.length) .dead, pad S (Tryd.f12.ntmps + 0)⟩) :=
  rn_run (D := DR G N) (i := i12) rfl (fun T => N.off T 12 (by decide) (by decide)) Tryd.func12 rfl k args S
theorem run13 (G : Gl) (N : Nats) (k : Nat) (args : List AV) (S : Subs) : rn (DR G N) (k + 1) 13 args S = finF S.length Tryd.prog Tryd.f13.results.toList (acode G (carry Tryd.prog (tbl (DR G N) k)) i13.hints 0 (bodyOf Tryd.f13) ⟨args ++ List.replicate (Tryd.f13.ntmps - args.length) .dead, pad S (Tryd.f13.ntmps + 0)⟩) :=
  rn_run (D := DR G N) (i := i13) rfl (fun T => N.off T 13 (by decide) (by decide)) Tryd.func13 rfl k args S
theorem run14 (G : Gl) (N : Nats) (k : Nat) (args : List AV) (S : Subs) : rn (DR G N) (k + 1) 14 args S = finF S.length Tryd.prog Tryd.f14.results.toList (acode G (carry Tryd.prog (tbl (DR G N) k)) i14.hints 0 (bodyOf Tryd.f14) ⟨args ++ List.replicate (Tryd.f14.ntmps - args.length) .dead, pad S (Tryd.f14.ntmps + 0)⟩) :=
  rn_run (D := DR G N) (i := i14) rfl (fun T => N.off T 14 (by decide) (by decide)) Tryd.func14 rfl k args S
theorem run15 (G : Gl) (N : Nats) (k : Nat) (args : List AV) (S : Subs) : rn (DR G N) (k + 1) 15 args S = finF S.length Tryd.prog Tryd.f15.results.toList (acode G (carry Tryd.prog (tbl (DR G N) k)) i15.hints 0 (bodyOf Tryd.f15) ⟨args ++ List.replicate (Tryd.f15.ntmps - args.length) .dead, pad S (Tryd.f15.ntmps + 0)⟩) :=
  rn_run (D := DR G N) (i := i15) rfl (fun T => N.off T 15 (by decide) (by decide)) Tryd.func15 rfl k args S
theorem run16 (G : Gl) (N : Nats) (k : Nat) (args : List AV) (S : Subs) : rn (DR G N) (k + 1) 16 args S = finF S.length Tryd.prog Tryd.f16.results.toList (acode G (carry Tryd.prog (tbl (DR G N) k)) i16.hints 0 (bodyOf Tryd.f16) ⟨args ++ List.replicate (Tryd.f16.ntmps - args.length) .dead, pad S (Tryd.f16.ntmps + 0)⟩) :=
  rn_run (D := DR G N) (i := i16) rfl (fun T => N.off T 16 (by decide) (by decide)) Tryd.func16 rfl k args S
theorem run17 (G : Gl) (N : Nats) (k : Nat) (args : List AV) (S : Subs) : rn (DR G N) (k + 1) 17 args S = finF S.length Tryd.prog Tryd.f17.results.toList (acode G (carry Tryd.prog (tbl (DR G N) k)) i17.hints 0 (bodyOf Tryd.f17) ⟨args ++ List.replicate (Tryd.f17.ntmps - args.length) .dead, pad S (Tryd.f17.ntmps + 0)⟩) :=
  rn_run (D := DR G N) (i := i17) rfl (fun T => N.off T 17 (by decide) (by decide)) Tryd.func17 rfl k args S
theorem run18 (G : Gl) (N : Nats) (k : Nat) (args : List AV) (S : Subs) : rn (DR G N) (k + 1) 18 args S = finF S.length Tryd.prog Tryd.f18.results.toList (acode G (carry Tryd.prog (tbl (DR G N) k)) i18.hints 0 (bodyOf Tryd.f18) ⟨args ++ List.replicate (Tryd.f18.ntmps - args.length) .dead, pad S (Tryd.f18.ntmps + 0)⟩) :=
  rn_run (D := DR G N) (i := i18) rfl (fun T => N.off T 18 (by decide) (by decide)) Tryd.func18 rfl k args S
theorem run19 (G : Gl) (N : Nats) (k : Nat) (args : List AV) (S : Subs) : rn (DR G N) (k + 1) 19 args S = finF S.length Tryd.prog Tryd.f19.results.toList (acode G (carry Tryd.prog (tbl (DR G N) k)) i19.hints 0 (bodyOf Tryd.f19) ⟨args ++ List.replicate (Tryd.f19.ntmps - args.length) .dead, pad S (Tryd.f19.ntmps + 0)⟩) :=
  rn_run (D := DR G N) (i := i19) rfl (fun T => N.off T 19 (by decide) (by decide)) Tryd.func19 rfl k args S
theorem run20 (G : Gl) (N : Nats) (k : Nat) (args : List AV) (S : Subs) : rn (DR G N) (k + 1) 20 args S = finF S.length Tryd.prog Tryd.f20.results.toList (acode G (carry Tryd.prog (tbl (DR G N) k)) i20.hints 0 (bodyOf Tryd.f20) ⟨args ++ List.replicate (Tryd.f20.ntmps - args.length) .dead, pad S (Tryd.f20.ntmps + 0)⟩) :=
  rn_run (D := DR G N) (i := i20) rfl (fun T => N.off T 20 (by decide) (by decide)) Tryd.func20 rfl k args S
theorem run21 (G : Gl) (N : Nats) (k : Nat) (args : List AV) (S : Subs) : rn (DR G N) (k + 1) 21 args S = finF S.length Tryd.prog Tryd.f21.results.toList (acode G (carry Tryd.prog (tbl (DR G N) k)) i21.hints 0 (bodyOf Tryd.f21) ⟨args ++ List.replicate (Tryd.f21.ntmps - args.length) .dead, pad S (Tryd.f21.ntmps + 0)⟩) :=
  rn_run (D := DR G N) (i := i21) rfl (fun T => N.off T 21 (by decide) (by decide)) Tryd.func21 rfl k args S
theorem run22 (G : Gl) (N : Nats) (k : Nat) (args : List AV) (S : Subs) : rn (DR G N) (k + 1) 22 args S = finF S.length Tryd.prog Tryd.f22.results.toList (acode G (carry Tryd.prog (tbl (DR G N) k)) i22.hints 0 (bodyOf Tryd.f22) ⟨args ++ List.replicate (Tryd.f22.ntmps - args.length) .dead, pad S (Tryd.f22.ntmps + 0)⟩) :=
  rn_run (D := DR G N) (i := i22) rfl (fun T => N.off T 22 (by decide) (by decide)) Tryd.func22 rfl k args S
theorem run23 (G : Gl) (N : Nats) (k : Nat) (args : List AV) (S : Subs) : rn (DR G N) (k + 1) 23 args S = finF S.length Tryd.prog Tryd.f23.results.toList (acode G (carryI Tryd.prog G (tbl (DR G N) k) (i23.inlT Tryd.prog)) (i23.hintsR Tryd.prog G (tbl (DR G N) k)) 0 (bodyOf Tryd.f23) ⟨args ++ List.replicate (Tryd.f23.ntmps - args.length) .dead, pad S (Tryd.f23.ntmps + 26)⟩) :=
  rn_runR (D := DR G N) (i := i23) rfl (fun T => N.off T 23 (by decide) (by decide)) Tryd.func23 rfl k args S
theorem run25 (G : Gl) (N : Nats) (k : Nat) (args : List AV) (S : Subs) : rn (DR G N) (k + 1) 25 args S = finF S.length Tryd.prog Tryd.f25.results.toList (acode G (carry Tryd.prog (tbl (DR G N) k)) i25.hints 0 (bodyOf Tryd.f25) ⟨args ++ List.replicate (Tryd.f25.ntmps - args.length) .dead, pad S (Tryd.f25.ntmps + 0)⟩) :=
  rn_run (D := DR G N) (i := i25) rfl (fun T => N.off T 25 (by decide) (by decide)) Tryd.func25 rfl k args S
theorem run26 (G : Gl) (N : Nats) (k : Nat) (args : List AV) (S : Subs) : rn (DR G N) (k + 1) 26 args S = finF S.length Tryd.prog Tryd.f26.results.toList (acode G (carry Tryd.prog (tbl (DR G N) k)) i26.hints 0 (bodyOf Tryd.f26) ⟨args ++ List.replicate (Tryd.f26.ntmps - args.length) .dead, pad S (Tryd.f26.ntmps + 0)⟩) :=
  rn_run (D := DR G N) (i := i26) rfl (fun T => N.off T 26 (by decide) (by decide)) Tryd.func26 rfl k args S
theorem run27 (G : Gl) (N : Nats) (k : Nat) (args : List AV) (S : Subs) : rn (DR G N) (k + 1) 27 args S = finF S.length Tryd.prog Tryd.f27.results.toList (acode G (carry Tryd.prog (tbl (DR G N) k)) i27.hints 0 (bodyOf Tryd.f27) ⟨args ++ List.replicate (Tryd.f27.ntmps - args.length) .dead, pad S (Tryd.f27.ntmps + 0)⟩) :=
  rn_run (D := DR G N) (i := i27) rfl (fun T => N.off T 27 (by decide) (by decide)) Tryd.func27 rfl k args S
theorem run28 (G : Gl) (N : Nats) (k : Nat) (args : List AV) (S : Subs) : rn (DR G N) (k + 1) 28 args S = finF S.length Tryd.prog Tryd.f28.results.toList (acode G (carry Tryd.prog (tbl (DR G N) k)) i28.hints 0 (bodyOf Tryd.f28) ⟨args ++ List.replicate (Tryd.f28.ntmps - args.length) .dead, pad S (Tryd.f28.ntmps + 0)⟩) :=
  rn_run (D := DR G N) (i := i28) rfl (fun T => N.off T 28 (by decide) (by decide)) Tryd.func28 rfl k args S
theorem run29 (G : Gl) (N : Nats) (k : Nat) (args : List AV) (S : Subs) : rn (DR G N) (k + 1) 29 args S = finF S.length Tryd.prog Tryd.f29.results.toList (acode G (carry Tryd.prog (tbl (DR G N) k)) i29.hints 0 (bodyOf Tryd.f29) ⟨args ++ List.replicate (Tryd.f29.ntmps - args.length) .dead, pad S (Tryd.f29.ntmps + 0)⟩) :=
  rn_run (D := DR G N) (i := i29) rfl (fun T => N.off T 29 (by decide) (by decide)) Tryd.func29 rfl k args S
theorem run30 (G : Gl) (N : Nats) (k : Nat) (args : List AV) (S : Subs) : rn (DR G N) (k + 1) 30 args S = finF S.length Tryd.prog Tryd.f30.results.toList (acode G (carry Tryd.prog (tbl (DR G N) k)) i30.hints 0 (bodyOf Tryd.f30) ⟨args ++ List.replicate (Tryd.f30.ntmps - args.length) .dead, pad S (Tryd.f30.ntmps + 0)⟩) :=
  rn_run (D := DR G N) (i := i30) rfl (fun T => N.off T 30 (by decide) (by decide)) Tryd.func30 rfl k args S
theorem run31 (G : Gl) (N : Nats) (k : Nat) (args : List AV) (S : Subs) : rn (DR G N) (k + 1) 31 args S = finF S.length Tryd.prog Tryd.f31.results.toList (acode G (carry Tryd.prog (tbl (DR G N) k)) i31.hints 0 (bodyOf Tryd.f31) ⟨args ++ List.replicate (Tryd.f31.ntmps - args.length) .dead, pad S (Tryd.f31.ntmps + 0)⟩) :=
  rn_run (D := DR G N) (i := i31) rfl (fun T => N.off T 31 (by decide) (by decide)) Tryd.func31 rfl k args S
theorem run32 (G : Gl) (N : Nats) (k : Nat) (args : List AV) (S : Subs) : rn (DR G N) (k + 1) 32 args S = finF S.length Tryd.prog Tryd.f32.results.toList (acode G (carry Tryd.prog (tbl (DR G N) k)) i32.hints 0 (bodyOf Tryd.f32) ⟨args ++ List.replicate (Tryd.f32.ntmps - args.length) .dead, pad S (Tryd.f32.ntmps + 0)⟩) :=
  rn_run (D := DR G N) (i := i32) rfl (fun T => N.off T 32 (by decide) (by decide)) Tryd.func32 rfl k args S
theorem run33 (G : Gl) (N : Nats) (k : Nat) (args : List AV) (S : Subs) : rn (DR G N) (k + 1) 33 args S = finF S.length Tryd.prog Tryd.f33.results.toList (acode G (carry Tryd.prog (tbl (DR G N) k)) i33.hints 0 (bodyOf Tryd.f33) ⟨args ++ List.replicate (Tryd.f33.ntmps - args.length) .dead, pad S (Tryd.f33.ntmps + 0)⟩) :=
  rn_run (D := DR G N) (i := i33) rfl (fun T => N.off T 33 (by decide) (by decide)) Tryd.func33 rfl k args S
theorem run35 (G : Gl) (N : Nats) (k : Nat) (args : List AV) (S : Subs) : rn (DR G N) (k + 1) 35 args S = finF S.length Tryd.prog Tryd.f35.results.toList (acode G (carry Tryd.prog (tbl (DR G N) k)) i35.hints 0 (bodyOf Tryd.f35) ⟨args ++ List.replicate (Tryd.f35.ntmps - args.length) .dead, pad S (Tryd.f35.ntmps + 0)⟩) :=
  rn_run (D := DR G N) (i := i35) rfl (fun T => N.off T 35 (by decide) (by decide)) Tryd.func35 rfl k args S
theorem run36 (G : Gl) (N : Nats) (k : Nat) (args : List AV) (S : Subs) : rn (DR G N) (k + 1) 36 args S = finF S.length Tryd.prog Tryd.f36.results.toList (acode G (carry Tryd.prog (tbl (DR G N) k)) i36.hints 0 (bodyOf Tryd.f36) ⟨args ++ List.replicate (Tryd.f36.ntmps - args.length) .dead, pad S (Tryd.f36.ntmps + 0)⟩) :=
  rn_run (D := DR G N) (i := i36) rfl (fun T => N.off T 36 (by decide) (by decide)) Tryd.func36 rfl k args S
theorem run37 (G : Gl) (N : Nats) (k : Nat) (args : List AV) (S : Subs) : rn (DR G N) (k + 1) 37 args S = finF S.length Tryd.prog Tryd.f37.results.toList (acode G (carry Tryd.prog (tbl (DR G N) k)) i37.hints 0 (bodyOf Tryd.f37) ⟨args ++ List.replicate (Tryd.f37.ntmps - args.length) .dead, pad S (Tryd.f37.ntmps + 0)⟩) :=
  rn_run (D := DR G N) (i := i37) rfl (fun T => N.off T 37 (by decide) (by decide)) Tryd.func37 rfl k args S
theorem run38 (G : Gl) (N : Nats) (k : Nat) (args : List AV) (S : Subs) : rn (DR G N) (k + 1) 38 args S = finF S.length Tryd.prog Tryd.f38.results.toList (acode G (carry Tryd.prog (tbl (DR G N) k)) i38.hints 0 (bodyOf Tryd.f38) ⟨args ++ List.replicate (Tryd.f38.ntmps - args.length) .dead, pad S (Tryd.f38.ntmps + 0)⟩) :=
  rn_run (D := DR G N) (i := i38) rfl (fun T => N.off T 38 (by decide) (by decide)) Tryd.func38 rfl k args S
theorem run39 (G : Gl) (N : Nats) (k : Nat) (args : List AV) (S : Subs) : rn (DR G N) (k + 1) 39 args S = finF S.length Tryd.prog Tryd.f39.results.toList (acode G (carry Tryd.prog (tbl (DR G N) k)) i39.hints 0 (bodyOf Tryd.f39) ⟨args ++ List.replicate (Tryd.f39.ntmps - args.length) .dead, pad S (Tryd.f39.ntmps + 0)⟩) :=
  rn_run (D := DR G N) (i := i39) rfl (fun T => N.off T 39 (by decide) (by decide)) Tryd.func39 rfl k args S
theorem run44 (G : Gl) (N : Nats) (k : Nat) (args : List AV) (S : Subs) : rn (DR G N) (k + 1) 44 args S = finF S.length Tryd.prog Tryd.f44.results.toList (acode G (carry Tryd.prog (tbl (DR G N) k)) i44.hints 0 (bodyOf Tryd.f44) ⟨args ++ List.replicate (Tryd.f44.ntmps - args.length) .dead, pad S (Tryd.f44.ntmps + 0)⟩) :=
  rn_run (D := DR G N) (i := i44) rfl (fun T => N.off T 44 (by decide) (by decide)) Tryd.func44 rfl k args S
theorem run47 (G : Gl) (N : Nats) (k : Nat) (args : List AV) (S : Subs) : rn (DR G N) (k + 1) 47 args S = finF S.length Tryd.prog Tryd.f47.results.toList (acode G (carry Tryd.prog (tbl (DR G N) k)) i47.hints 0 (bodyOf Tryd.f47) ⟨args ++ List.replicate (Tryd.f47.ntmps - args.length) .dead, pad S (Tryd.f47.ntmps + 0)⟩) :=
  rn_run (D := DR G N) (i := i47) rfl (fun T => N.off T 47 (by decide) (by decide)) Tryd.func47 rfl k args S
theorem run48 (G : Gl) (N : Nats) (k : Nat) (args : List AV) (S : Subs) : rn (DR G N) (k + 1) 48 args S = finF S.length Tryd.prog Tryd.f48.results.toList (acode G (carry Tryd.prog (tbl (DR G N) k)) i48.hints 0 (bodyOf Tryd.f48) ⟨args ++ List.replicate (Tryd.f48.ntmps - args.length) .dead, pad S (Tryd.f48.ntmps + 0)⟩) :=
  rn_run (D := DR G N) (i := i48) rfl (fun T => N.off T 48 (by decide) (by decide)) Tryd.func48 rfl k args S
theorem run49 (G : Gl) (N : Nats) (k : Nat) (args : List AV) (S : Subs) : rn (DR G N) (k + 1) 49 args S = finF S.length Tryd.prog Tryd.f49.results.toList (acode G (carry Tryd.prog (tbl (DR G N) k)) i49.hints 0 (bodyOf Tryd.f49) ⟨args ++ List.replicate (Tryd.f49.ntmps - args.length) .dead, pad S (Tryd.f49.ntmps + 0)⟩) :=
  rn_run (D := DR G N) (i := i49) rfl (fun T => N.off T 49 (by decide) (by decide)) Tryd.func49 rfl k args S
theorem run50 (G : Gl) (N : Nats) (k : Nat) (args : List AV) (S : Subs) : rn (DR G N) (k + 1) 50 args S = finF S.length Tryd.prog Tryd.f50.results.toList (acode G (carryI Tryd.prog G (tbl (DR G N) k) (i50.inlT Tryd.prog)) (i50.hintsR Tryd.prog G (tbl (DR G N) k)) 0 (bodyOf Tryd.f50) ⟨args ++ List.replicate (Tryd.f50.ntmps - args.length) .dead, pad S (Tryd.f50.ntmps + 92)⟩) :=
  rn_runR (D := DR G N) (i := i50) rfl (fun T => N.off T 50 (by decide) (by decide)) Tryd.func50 rfl k args S
theorem run51 (G : Gl) (N : Nats) (k : Nat) (args : List AV) (S : Subs) : rn (DR G N) (k + 1) 51 args S = finF S.length Tryd.prog Tryd.f51.results.toList (acode G (carry Tryd.prog (tbl (DR G N) k)) i51.hints 0 (bodyOf Tryd.f51) ⟨args ++ List.replicate (Tryd.f51.ntmps - args.length) .dead, pad S (Tryd.f51.ntmps + 0)⟩) :=
  rn_run (D := DR G N) (i := i51) rfl (fun T => N.off T 51 (by decide) (by decide)) Tryd.func51 rfl k args S
theorem run52 (G : Gl) (N : Nats) (k : Nat) (args : List AV) (S : Subs) : rn (DR G N) (k + 1) 52 args S = finF S.length Tryd.prog Tryd.f52.results.toList (acode G (carry Tryd.prog (tbl (DR G N) k)) i52.hints 0 (bodyOf Tryd.f52) ⟨args ++ List.replicate (Tryd.f52.ntmps - args.length) .dead, pad S (Tryd.f52.ntmps + 0)⟩) :=
  rn_run (D := DR G N) (i := i52) rfl (fun T => N.off T 52 (by decide) (by decide)) Tryd.func52 rfl k args S
theorem run53 (G : Gl) (N : Nats) (k : Nat) (args : List AV) (S : Subs) : rn (DR G N) (k + 1) 53 args S = finF S.length Tryd.prog Tryd.f53.results.toList (acode G (carry Tryd.prog (tbl (DR G N) k)) i53.hints 0 (bodyOf Tryd.f53) ⟨args ++ List.replicate (Tryd.f53.ntmps - args.length) .dead, pad S (Tryd.f53.ntmps + 0)⟩) :=
  rn_run (D := DR G N) (i := i53) rfl (fun T => N.off T 53 (by decide) (by decide)) Tryd.func53 rfl k args S
theorem run56 (G : Gl) (N : Nats) (k : Nat) (args : List AV) (S : Subs) : rn (DR G N) (k + 1) 56 args S = finF S.length Tryd.prog Tryd.f56.results.toList (acode G (carry Tryd.prog (tbl (DR G N) k)) i56.hints 0 (bodyOf Tryd.f56) ⟨args ++ List.replicate (Tryd.f56.ntmps - args.length) .dead, pad S (Tryd.f56.ntmps + 0)⟩) :=
  rn_run (D := DR G N) (i := i56) rfl (fun T => N.off T 56 (by decide) (by decide)) Tryd.func56 rfl k args S
theorem run57 (G : Gl) (N : Nats) (k : Nat) (args : List AV) (S : Subs) : rn (DR G N) (k + 1) 57 args S = finF S.length Tryd.prog Tryd.f57.results.toList (acode G (carry Tryd.prog (tbl (DR G N) k)) i57.hints 0 (bodyOf Tryd.f57) ⟨args ++ List.replicate (Tryd.f57.ntmps - args.length) .dead, pad S (Tryd.f57.ntmps + 0)⟩) :=
  rn_run (D := DR G N) (i := i57) rfl (fun T => N.off T 57 (by decide) (by decide)) Tryd.func57 rfl k args S
theorem run58 (G : Gl) (N : Nats) (k : Nat) (args : List AV) (S : Subs) : rn (DR G N) (k + 1) 58 args S = finF S.length Tryd.prog Tryd.f58.results.toList (acode G (carry Tryd.prog (tbl (DR G N) k)) i58.hints 0 (bodyOf Tryd.f58) ⟨args ++ List.replicate (Tryd.f58.ntmps - args.length) .dead, pad S (Tryd.f58.ntmps + 0)⟩) :=
  rn_run (D := DR G N) (i := i58) rfl (fun T => N.off T 58 (by decide) (by decide)) Tryd.func58 rfl k args S
theorem run59 (G : Gl) (N : Nats) (k : Nat) (args : List AV) (S : Subs) : rn (DR G N) (k + 1) 59 args S = finF S.length Tryd.prog Tryd.f59.results.toList (acode G (carry Tryd.prog (tbl (DR G N) k)) i59.hints 0 (bodyOf Tryd.f59) ⟨args ++ List.replicate (Tryd.f59.ntmps - args.length) .dead, pad S (Tryd.f59.ntmps + 0)⟩) :=
  rn_run (D := DR G N) (i := i59) rfl (fun T => N.off T 59 (by decide) (by decide)) Tryd.func59 rfl k args S
theorem run60 (G : Gl) (N : Nats) (k : Nat) (args : List AV) (S : Subs) : rn (DR G N) (k + 1) 60 args S = finF S.length Tryd.prog Tryd.f60.results.toList (acode G (carry Tryd.prog (tbl (DR G N) k)) i60.hints 0 (bodyOf Tryd.f60) ⟨args ++ List.replicate (Tryd.f60.ntmps - args.length) .dead, pad S (Tryd.f60.ntmps + 0)⟩) :=
  rn_run (D := DR G N) (i := i60) rfl (fun T => N.off T 60 (by decide) (by decide)) Tryd.func60 rfl k args S
theorem run61 (G : Gl) (N : Nats) (k : Nat) (args : List AV) (S : Subs) : rn (DR G N) (k + 1) 61 args S = finF S.length Tryd.prog Tryd.f61.results.toList (acode G (carry Tryd.prog (tbl (DR G N) k)) i61.hints 0 (bodyOf Tryd.f61) ⟨args ++ List.replicate (Tryd.f61.ntmps - args.length) .dead, pad S (Tryd.f61.ntmps + 0)⟩) :=
  rn_run (D := DR G N) (i := i61) rfl (fun T => N.off T 61 (by decide) (by decide)) Tryd.func61 rfl k args S
theorem run62 (G : Gl) (N : Nats) (k : Nat) (args : List AV) (S : Subs) : rn (DR G N) (k + 1) 62 args S = finF S.length Tryd.prog Tryd.f62.results.toList (acode G (carry Tryd.prog (tbl (DR G N) k)) i62.hints 0 (bodyOf Tryd.f62) ⟨args ++ List.replicate (Tryd.f62.ntmps - args.length) .dead, pad S (Tryd.f62.ntmps + 0)⟩) :=
  rn_run (D := DR G N) (i := i62) rfl (fun T => N.off T 62 (by decide) (by decide)) Tryd.func62 rfl k args S
theorem run63 (G : Gl) (N : Nats) (k : Nat) (args : List AV) (S : Subs) : rn (DR G N) (k + 1) 63 args S = finF S.length Tryd.prog Tryd.f63.results.toList (acode G (carry Tryd.prog (tbl (DR G N) k)) i63.hints 0 (bodyOf Tryd.f63) ⟨args ++ List.replicate (Tryd.f63.ntmps - args.length) .dead, pad S (Tryd.f63.ntmps + 0)⟩) :=
  rn_run (D := DR G N) (i := i63) rfl (fun T => N.off T 63 (by decide) (by decide)) Tryd.func63 rfl k args S
theorem run64 (G : Gl) (N : Nats) (k : Nat) (args : List AV) (S : Subs) : rn (DR G N) (k + 1) 64 args S = finF S.length Tryd.prog Tryd.f64.results.toList (acode G (carry Tryd.prog (tbl (DR G N) k)) i64.hints 0 (bodyOf Tryd.f64) ⟨args ++ List.replicate (Tryd.f64.ntmps - args.length) .dead, pad S (Tryd.f64.ntmps + 0)⟩) :=
  rn_run (D := DR G N) (i := i64) rfl (fun T => N.off T 64 (by decide) (by decide)) Tryd.func64 rfl k args S
theorem run65 (G : Gl) (N : Nats) (k : Nat) (args : List AV) (S : Subs) : rn (DR G N) (k + 1) 65 args S = finF S.length Tryd.prog Tryd.f65.results.toList (acode G (carry Tryd.prog (tbl (DR G N) k)) i65.hints 0 (bodyOf Tryd.f65) ⟨args ++ List.replicate (Tryd.f65.ntmps - args.length) .dead, pad S (Tryd.f65.ntmps + 0)⟩) :=
  rn_run (D := DR G N) (i := i65) rfl (fun T => N.off T 65 (by decide) (by decide)) Tryd.func65 rfl k args S
theorem run66 (G : Gl) (N : Nats) (k : Nat) (args : List AV) (S : Subs) : rn (DR G N) (k + 1) 66 args S = finF S.length Tryd.prog Tryd.f66.results.toList (acode G (carry Tryd.prog (tbl (DR G N) k)) i66.hints 0 (bodyOf Tryd.f66) ⟨args ++ List.replicate (Tryd.f66.ntmps - args.length) .dead, pad S (Tryd.f66.ntmps + 0)⟩) :=
  rn_run (D := DR G N) (i := i66) rfl (fun T => N.off T 66 (by decide) (by decide)) Tryd.func66 rfl k args S
theorem run67 (G : Gl) (N : Nats) (k : Nat) (args : List AV) (S : Subs) : rn (DR G N) (k + 1) 67 args S = finF S.length Tryd.prog Tryd.f67.results.toList (acode G (carry Tryd.prog (tbl (DR G N) k)) i67.hints 0 (bodyOf Tryd.f67) ⟨args ++ List.replicate (Tryd.f67.ntmps - args.length) .dead, pad S (Tryd.f67.ntmps + 0)⟩) :=
  rn_run (D := DR G N) (i := i67) rfl (fun T => N.off T 67 (by decide) (by decide)) Tryd.func67 rfl k args S
theorem run68 (G : Gl) (N : Nats) (k : Nat) (args : List AV) (S : Subs) : rn (DR G N) (k + 1) 68 args S = finF S.length Tryd.prog Tryd.f68.results.toList (acode G (carry Tryd.prog (tbl (DR G N) k)) i68.hints 0 (bodyOf Tryd.f68) ⟨args ++ List.replicate (Tryd.f68.ntmps - args.length) .dead, pad S (Tryd.f68.ntmps + 0)⟩) :=
  rn_run (D := DR G N) (i := i68) rfl (fun T => N.off T 68 (by decide) (by decide)) Tryd.func68 rfl k args S
theorem run69 (G : Gl) (N : Nats) (k : Nat) (args : List AV) (S : Subs) : rn (DR G N) (k + 1) 69 args S = finF S.length Tryd.prog Tryd.f69.results.toList (acode G (carry Tryd.prog (tbl (DR G N) k)) i69.hints 0 (bodyOf Tryd.f69) ⟨args ++ List.replicate (Tryd.f69.ntmps - args.length) .dead, pad S (Tryd.f69.ntmps + 0)⟩) :=
  rn_run (D := DR G N) (i := i69) rfl (fun T => N.off T 69 (by decide) (by decide)) Tryd.func69 rfl k args S
theorem run70 (G : Gl) (N : Nats) (k : Nat) (args : List AV) (S : Subs) : rn (DR G N) (k + 1) 70 args S = finF S.length Tryd.prog Tryd.f70.results.toList (acode G (carry Tryd.prog (tbl (DR G N) k)) i70.hints 0 (bodyOf Tryd.f70) ⟨args ++ List.replicate (Tryd.f70.ntmps - args.length) .dead, pad S (Tryd.f70.ntmps + 0)⟩) :=
  rn_run (D := DR G N) (i := i70) rfl (fun T => N.off T 70 (by decide) (by decide)) Tryd.func70 rfl k args S
theorem run71 (G : Gl) (N : Nats) (k : Nat) (args : List AV) (S : Subs) : rn (DR G N) (k + 1) 71 args S = finF S.length Tryd.prog Tryd.f71.results.toList (acode G (carry Tryd.prog (tbl (DR G N) k)) i71.hints 0 (bodyOf Tryd.f71) ⟨args ++ List.replicate (Tryd.f71.ntmps - args.length) .dead, pad S (Tryd.f71.ntmps + 0)⟩) :=
  rn_run (D := DR G N) (i := i71) rfl (fun T => N.off T 71 (by decide) (by decide)) Tryd.func71 rfl k args S
theorem run72 (G : Gl) (N : Nats) (k : Nat) (args : List AV) (S : Subs) : rn (DR G N) (k + 1) 72 args S = finF S.length Tryd.prog Tryd.f72.results.toList (acode G (carry Tryd.prog (tbl (DR G N) k)) i72.hints 0 (bodyOf Tryd.f72) ⟨args ++ List.replicate (Tryd.f72.ntmps - args.length) .dead, pad S (Tryd.f72.ntmps + 0)⟩) :=
  rn_run (D := DR G N) (i := i72) rfl (fun T => N.off T 72 (by decide) (by decide)) Tryd.func72 rfl k args S
theorem run73 (G : Gl) (N : Nats) (k : Nat) (args : List AV) (S : Subs) : rn (DR G N) (k + 1) 73 args S = finF S.length Tryd.prog Tryd.f73.results.toList (acode G (carry Tryd.prog (tbl (DR G N) k)) i73.hints 0 (bodyOf Tryd.f73) ⟨args ++ List.replicate (Tryd.f73.ntmps - args.length) .dead, pad S (Tryd.f73.ntmps + 0)⟩) :=
  rn_run (D := DR G N) (i := i73) rfl (fun T => N.off T 73 (by decide) (by decide)) Tryd.func73 rfl k args S
theorem run74 (G : Gl) (N : Nats) (k : Nat) (args : List AV) (S : Subs) : rn (DR G N) (k + 1) 74 args S = finF S.length Tryd.prog Tryd.f74.results.toList (acode G (carry Tryd.prog (tbl (DR G N) k)) i74.hints 0 (bodyOf Tryd.f74) ⟨args ++ List.replicate (Tryd.f74.ntmps - args.length) .dead, pad S (Tryd.f74.ntmps + 0)⟩) :=
  rn_run (D := DR G N) (i := i74) rfl (fun T => N.off T 74 (by decide) (by decide)) Tryd.func74 rfl k args S
theorem run75 (G : Gl) (N : Nats) (k : Nat) (args : List AV) (S : Subs) : rn (DR G N) (k + 1) 75 args S = finF S.length Tryd.prog Tryd.f75.results.toList (acode G (carry Tryd.prog (tbl (DR G N) k)) i75.hints 0 (bodyOf Tryd.f75) ⟨args ++ List.replicate (Tryd.f75.ntmps - args.length) .dead, pad S (Tryd.f75.ntmps + 0)⟩) :=
  rn_run (D := DR G N) (i := i75) rfl (fun T => N.off T 75 (by decide) (by decide)) Tryd.func75 rfl k args S
theorem run76 (G : Gl) (N : Nats) (k : Nat) (args : List AV) (S : Subs) : rn (DR G N) (k + 1) 76 args S = finF S.length Tryd.prog Tryd.f76.results.toList (acode G (carry Tryd.prog (tbl (DR G N) k)) i76.hints 0 (bodyOf Tryd.f76) ⟨args ++ List.replicate (Tryd.f76.ntmps - args.length) .dead, pad S (Tryd.f76.ntmps + 0)⟩) :=
  rn_run (D := DR G N) (i := i76) rfl (fun T => N.off T 76 (by decide) (by decide)) Tryd.func76 rfl k args S
theorem run77 (G : Gl) (N : Nats) (k : Nat) (args : List AV) (S : Subs) : rn (DR G N) (k + 1) 77 args S = finF S.length Tryd.prog Tryd.f77.results.toList (acode G (carry Tryd.prog (tbl (DR G N) k)) i77.hints 0 (bodyOf Tryd.f77) ⟨args ++ List.replicate (Tryd.f77.ntmps - args.length) .dead, pad S (Tryd.f77.ntmps + 0)⟩) :=
  rn_run (D := DR G N) (i := i77) rfl (fun T => N.off T 77 (by decide) (by decide)) Tryd.func77 rfl k args S
theorem run78 (G : Gl) (N : Nats) (k : Nat) (args : List AV) (S : Subs) : rn (DR G N) (k + 1) 78 args S = finF S.length Tryd.prog Tryd.f78.results.toList (acode G (carry Tryd.prog (tbl (DR G N) k)) i78.hints 0 (bodyOf Tryd.f78) ⟨args ++ List.replicate (Tryd.f78.ntmps - args.length) .dead, pad S (Tryd.f78.ntmps + 0)⟩) :=
  rn_run (D := DR G N) (i := i78) rfl (fun T => N.off T 78 (by decide) (by decide)) Tryd.func78 rfl k args S
theorem run79 (G : Gl) (N : Nats) (k : Nat) (args : List AV) (S : Subs) : rn (DR G N) (k + 1) 79 args S = finF S.length Tryd.prog Tryd.f79.results.toList (acode G (carry Tryd.prog (tbl (DR G N) k)) i79.hints 0 (bodyOf Tryd.f79) ⟨args ++ List.replicate (Tryd.f79.ntmps - args.length) .dead, pad S (Tryd.f79.ntmps + 0)⟩) :=
  rn_run (D := DR G N) (i := i79) rfl (fun T => N.off T 79 (by decide) (by decide)) Tryd.func79 rfl k args S
theorem run80 (G : Gl) (N : Nats) (k : Nat) (args : List AV) (S : Subs) : rn (DR G N) (k + 1) 80 args S = finF S.length Tryd.prog Tryd.f80.results.toList (acode G (carry Tryd.prog (tbl (DR G N) k)) i80.hints 0 (bodyOf Tryd.f80) ⟨args ++ List.replicate (Tryd.f80.ntmps - args.length) .dead, pad S (Tryd.f80.ntmps + 0)⟩) :=
  rn_run (D := DR G N) (i := i80) rfl (fun T => N.off T 80 (by decide) (by decide)) Tryd.func80 rfl k args S
theorem run81 (G : Gl) (N : Nats) (k : Nat) (args : List AV) (S : Subs) : rn (DR G N) (k + 1) 81 args S = finF S.length Tryd.prog Tryd.f81.results.toList (acode G (carry Tryd.prog (tbl (DR G N) k)) i81.hints 0 (bodyOf Tryd.f81) ⟨args ++ List.replicate (Tryd.f81.ntmps - args.length) .dead, pad S (Tryd.f81.ntmps + 0)⟩) :=
  rn_run (D := DR G N) (i := i81) rfl (fun T => N.off T 81 (by decide) (by decide)) Tryd.func81 rfl k args S
theorem run82 (G : Gl) (N : Nats) (k : Nat) (args : List AV) (S : Subs) : rn (DR G N) (k + 1) 82 args S = finF S.length Tryd.prog Tryd.f82.results.toList (acode G (carry Tryd.prog (tbl (DR G N) k)) i82.hints 0 (bodyOf Tryd.f82) ⟨args ++ List.replicate (Tryd.f82.ntmps - args.length) .dead, pad S (Tryd.f82.ntmps + 0)⟩) :=
  rn_run (D := DR G N) (i := i82) rfl (fun T => N.off T 82 (by decide) (by decide)) Tryd.func82 rfl k args S
theorem run83 (G : Gl) (N : Nats) (k : Nat) (args : List AV) (S : Subs) : rn (DR G N) (k + 1) 83 args S = finF S.length Tryd.prog Tryd.f83.results.toList (acode G (carry Tryd.prog (tbl (DR G N) k)) i83.hints 0 (bodyOf Tryd.f83) ⟨args ++ List.replicate (Tryd.f83.ntmps - args.length) .dead, pad S (Tryd.f83.ntmps + 0)⟩) :=
  rn_run (D := DR G N) (i := i83) rfl (fun T => N.off T 83 (by decide) (by decide)) Tryd.func83 rfl k args S
theorem run84 (G : Gl) (N : Nats) (k : Nat) (args : List AV) (S : Subs) : rn (DR G N) (k + 1) 84 args S = finF S.length Tryd.prog Tryd.f84.results.toList (acode G (carry Tryd.prog (tbl (DR G N) k)) i84.hints 0 (bodyOf Tryd.f84) ⟨args ++ List.replicate (Tryd.f84.ntmps - args.length) .dead, pad S (Tryd.f84.ntmps + 0)⟩) :=
  rn_run (D := DR G N) (i := i84) rfl (fun T => N.off T 84 (by decide) (by decide)) Tryd.func84 rfl k args S
theorem run85 (G : Gl) (N : Nats) (k : Nat) (args : List AV) (S : Subs) : rn (DR G N) (k + 1) 85 args S = finF S.length Tryd.prog Tryd.f85.results.toList (acode G (carry Tryd.prog (tbl (DR G N) k)) i85.hints 0 (bodyOf Tryd.f85) ⟨args ++ List.replicate (Tryd.f85.ntmps - args.length) .dead, pad S (Tryd.f85.ntmps + 0)⟩) :=
  rn_run (D := DR G N) (i := i85) rfl (fun T => N.off T 85 (by decide) (by decide)) Tryd.func85 rfl k args S
@[simp] theorem call3 (G : Gl) (N : Nats) (k : Nat) (args : List AV) (S : Subs) : callA (tbl (DR G N) k) (.clo 3 [] []) args S = thenR (prepR [] args S) fun xs S => thenR (gathR xs S) fun qs S => if (roots qs).Nodup then backR qs S (rn (DR G N) k 3 (argsIn qs) (subsIn qs)) else none := callA_rn (D := DR G N) (i := i3) rfl k args S
@[simp] theorem call4 (G : Gl) (N : Nats) (k : Nat) (args : List AV) (S : Subs) : callA (tbl (DR G N) k) (.clo 4 [] []) args S = thenR (prepR [] args S) fun xs S => thenR (gathR xs S) fun qs S => if (roots qs).Nodup then backR qs S (rn (DR G N) k 4 (argsIn qs) (subsIn qs)) else none := callA_rn (D := DR G N) (i := i4) rfl k args S
@[simp] theorem call5 (G : Gl) (N : Nats) (k : Nat) (args : List AV) (S : Subs) : callA (tbl (DR G N) k) (.clo 5 [] []) args S = thenR (prepR [] args S) fun xs S => thenR (gathR xs S) fun qs S => if (roots qs).Nodup then backR qs S (rn (DR G N) k 5 (argsIn qs) (subsIn qs)) else none := callA_rn (D := DR G N) (i := i5) rfl k args S
@[simp] theorem call6 (G : Gl) (N : Nats) (k : Nat) (args : List AV) (S : Subs) : callA (tbl (DR G N) k) (.clo 6 [] []) args S = thenR (prepR [] args S) fun xs S => thenR (gathR xs S) fun qs S => if (roots qs).Nodup then backR qs S (rn (DR G N) k 6 (argsIn qs) (subsIn qs)) else none := callA_rn (D := DR G N) (i := i6) rfl k args S
@[simp] theorem call7 (G : Gl) (N : Nats) (k : Nat) (args : List AV) (S : Subs) : callA (tbl (DR G N) k) (.clo 7 [] []) args S = thenR (prepR [] args S) fun xs S => thenR (gathR xs S) fun qs S => if (roots qs).Nodup then backR qs S (rn (DR G N) k 7 (argsIn qs) (subsIn qs)) else none := callA_rn (D := DR G N) (i := i7) rfl k args S
@[simp] theorem call8 (G : Gl) (N : Nats) (k : Nat) (args : List AV) (S : Subs) : callA (tbl (DR G N) k) (.clo 8 [] []) args S = thenR (prepR [] args S) fun xs S => thenR (gathR xs S) fun qs S => if (roots qs).Nodup then backR qs S (rn (DR G N) k 8 (argsIn qs) (subsIn qs)) else none := callA_rn (D := DR G N) (i := i8) rfl k args S
@[simp] theorem call9 (G : Gl) (N : Nats) (k : Nat) (args : List AV) (S : Subs) : callA (tbl (DR G N) k) (.clo 9 [] []) args S = thenR (prepR [] args S) fun xs S => thenR (gathR xs S) fun qs S => if (roots qs).Nodup then backR qs S (rn (DR G N) k 9 (argsIn qs) (subsIn qs)) else none := callA_rn (D := DR G N) (i := i9) rfl k args S
@[simp] theorem call10 (G : Gl) (N : Nats) (k : Nat) (args : List AV) (S : Subs) : callA (tbl (DR G N) k) (.clo 10 [] []) args S = thenR (prepR [] args S) fun xs S => thenR (gathR xs S) fun qs S => if (roots qs).Nodup then backR qs S (rn (DR G N) k 10 (argsIn qs) (subsIn qs)) else none := callA_rn (D := DR G N) (i := i10) rfl k args S
@[simp] theorem call11 (G : Gl) (N : Nats) (k : Nat) (args : List AV) (S : Subs) : callA (tbl (DR G N) k) (.clo 11 [] []) args S = thenR (prepR [] args S) fun xs S => thenR (gathR xs S) fun qs S => if (roots qs).Nodup then backR qs S (rn (DR G N) k 11 (argsIn qs) (subsIn qs)) else none := callA_rn (D := DR G N) (i := i11) rfl k args S
@[simp] theorem call12 (G : Gl) (N : Nats) (k : Nat) (args : List AV) (S : Subs) : callA (tbl (DR G N) k) (.clo 12 [] []) args S = thenR (prepR [] args S) fun xs S => thenR (gathR xs S) fun qs S => if (roots qs).Nodup then backR qs S (rn (DR G N) k 12 (argsIn qs) (subsIn qs)) else none := callA_rn (D := DR G N) (i := i12) rfl k args S
@[simp] theorem call13 (G : Gl) (N : Nats) (k : Nat) (args : List AV) (S : Subs) : callA (tbl (DR G N) k) (.clo 13 [] []) args S = thenR (prepR [] args S) fun xs S => thenR (gathR xs S) fun qs S => if (roots qs).Nodup then backR qs S (rn (DR G N) k 13 (argsIn qs) (subsIn qs)) else none := callA_rn (D := DR G N) (i := i13) rfl k args S
@[simp] theorem call14 (G : Gl) (N : Nats) (k : Nat) (args : List AV) (S : Subs) : callA (tbl (DR G N) k) (.clo 14 [] []) args S = thenR (prepR [] args S) fun xs S => thenR (gathR xs S) fun qs S => if (roots qs).Nodup then backR qs S (rn (DR G N) k 14 (argsIn qs) (subsIn qs)) else none := callA_rn (D := DR G N) (i := i14) rfl k args S
@[simp] theorem call15 (G : Gl) (N : Nats) (k : Nat) (args : List AV) (S : Subs) : callA (tbl (DR G N) k) (.clo 15 [] []) args S = thenR (prepR [] args S) fun xs S => thenR (gathR xs S) fun qs S => if (roots qs).Nodup then backR qs S (rn (DR G N) k 15 (argsIn qs) (subsIn qs)) else none := callA_rn (D := DR G N) (i := i15) rfl k args S
@[simp] theorem call16 (G : Gl) (N : Nats) (k : Nat) (args : List AV) (S : Subs) : callA (tbl (DR G N) k) (.clo 16 [] []) args S = thenR (prepR [] args S) fun xs S => thenR (gathR xs S) fun qs S => if (roots qs).Nodup then backR qs S (rn (DR G N) k 16 (argsIn qs) (subsIn qs)) else none := callA_rn (D := DR G N) (i := i16) rfl k args S
@[simp] theorem call17 (G : Gl) (N : Nats) (k : Nat) (args : List AV) (S : Subs) : callA (tbl (DR G N) k) (.clo 17 [] []) args S = thenR (prepR [] args S) fun xs S => thenR (gathR xs S) fun qs S => if (roots qs).Nodup then backR qs S (rn (DR G N) k 17 (argsIn qs) (subsIn qs)) else none := callA_rn (D := DR G N) (i := i17) rfl k args S
@[simp] theorem call18 (G : Gl) (N : Nats) (k : Nat) (args : List AV) (S : Subs) : callA (tbl (DR G N) k) (.clo 18 [] []) args S = thenR (prepR [] args S) fun xs S => thenR (gathR xs S) fun qs S => if (roots qs).Nodup then backR qs S (rn (DR G N) k 18 (argsIn qs) (subsIn qs)) else none := callA_rn (D := DR G N) (i := i18) rfl k args S
@[simp] theorem call19 (G : Gl) (N : Nats) (k : Nat) (args : List AV) (S : Subs) : callA (tbl (DR G N) k) (.clo 19 [] []) args S = thenR (prepR [] args S) fun xs S => thenR (gathR xs S) fun qs S => if (roots qs).Nodup then backR qs S (rn (DR G N) k 19 (argsIn qs) (subsIn qs)) else none := callA_rn (D := DR G N) (i := i19) rfl k args S
@[simp] theorem call20 (G : Gl) (N : Nats) (k : Nat) (args : List AV) (S : Subs) : callA (tbl (DR G N) k) (.clo 20 [] []) args S = thenR (prepR [] args S) fun xs S => thenR (gathR xs S) fun qs S => if (roots qs).Nodup then backR qs S (rn (DR G N) k 20 (argsIn qs) (subsIn qs)) else none := callA_rn (D := DR G N) (i := i20) rfl k args S
@[simp] theorem call21 (G : Gl) (N : Nats) (k : Nat) (args : List AV) (S : Subs) : callA (tbl (DR G N) k) (.clo 21 [] []) args S = thenR (prepR [] args S) fun xs S => thenR (gathR xs S) fun qs S => if (roots qs).Nodup then backR qs S (rn (DR G N) k 21 (argsIn qs) (subsIn qs)) else none := callA_rn (D := DR G N) (i := i21) rfl k args S
@[simp] theorem call22 (G : Gl) (N : Nats) (k : Nat) (args : List AV) (S : Subs) : callA (tbl (DR G N) k) (.clo 22 [] []) args S = thenR (prepR [] args S) fun xs S => thenR (gathR xs S) fun qs S => if (roots qs).Nodup then backR qs S (rn (DR G N) k 22 (argsIn qs) (subsIn qs)) else none := callA_rn (D := DR G N) (i := i22) rfl k args S
@[simp] theorem call23 (G : Gl) (N : Nats) (k : Nat) (args : List AV) (S : Subs) : callA (tbl (DR G N) k) (.clo 23 [] []) args S = thenR (prepR [true, false, false] args S) fun xs S => thenR (gathR xs S) fun qs S => if (roots qs).Nodup then backR qs S (rn (DR G N) k 23 (argsIn qs) (subsIn qs)) else none := callA_rn (D := DR G N) (i := i23) rfl k args S
@[simp] theorem call24 (G : Gl) (N : Nats) (k : Nat) (args : List AV) (S : Subs) : callA (tbl (DR G N) k) (.clo 24 [] []) args S = thenR (prepR [false, true] args S) fun xs S => thenR (gathR xs S) fun qs S => if (roots qs).Nodup then backR qs S (rn (DR G N) k 24 (argsIn qs) (subsIn qs)) else none := callA_rn (D := DR G N) (i := i24) rfl k args S
@[simp] theorem call25 (G : Gl) (N : Nats) (k : Nat) (args : List AV) (S : Subs) : callA (tbl (DR G N) k) (.clo 25 [] []) args S = thenR (prepR [] args S) fun xs S => thenR (gathR xs S) fun qs S => if (roots qs).Nodup then backR qs S (rn (DR G N) k 25 (argsIn qs) (subsIn qs)) else none := callA_rn (D := DR G N) (i := i25) rfl k args S
@[simp] theorem call26 (G : Gl) (N : Nats) (k : Nat) (args : List AV) (S : Subs) : callA (tbl (DR G N) k) (.clo 26 [] []) args S = thenR (prepR [] args S) fun xs S => thenR (gathR xs S) fun qs S => if (roots qs).Nodup then backR qs S (rn (DR G N) k 26 (argsIn qs) (subsIn qs)) else none := callA_rn (D := DR G N) (i := i26) rfl k args S
@[simp] theorem call27 (G : Gl) (N : Nats) (k : Nat) (args : List AV) (S : Subs) : callA (tbl (DR G N) k) (.clo 27 [] []) args S = thenR (prepR [] args S) fun xs S => thenR (gathR xs S) fun qs S => if (roots qs).Nodup then backR qs S (rn (DR G N) k 27 (argsIn qs) (subsIn qs)) else none := callA_rn (D := DR G N) (i := i27) rfl k args S
@[simp] theorem call28 (G : Gl) (N : Nats) (k : Nat) (args : List AV) (S : Subs) : callA (tbl (DR G N) k) (.clo 28 [] []) args S = thenR (prepR [] args S) fun xs S => thenR (gathR xs S) fun qs S => if (roots qs).Nodup then backR qs S (rn (DR G N) k 28 (argsIn qs) (subsIn qs)) else none := callA_rn (D := DR G N) (i := i28) rfl k args S
@[simp] theorem call29 (G : Gl) (N : Nats) (k : Nat) (args : List AV) (S : Subs) : callA (tbl (DR G N) k) (.clo 29 [] []) args S = thenR (prepR [] args S) fun xs S => thenR (gathR xs S) fun qs S => if (roots qs).Nodup then backR qs S (rn (DR G N) k 29 (argsIn qs) (subsIn qs)) else none := callA_rn (D := DR G N) (i := i29) rfl k args S
@[simp] theorem call30 (G : Gl) (N : Nats) (k : Nat) (args : List AV) (S : Subs) : callA (tbl (DR G N) k) (.clo 30 [] []) args S = thenR (prepR [] args S) fun xs S => thenR (gathR xs S) fun qs S => if (roots qs).Nodup then backR qs S (rn (DR G N) k 30 (argsIn qs) (subsIn qs)) else none := callA_rn (D := DR G N) (i := i30) rfl k args S
@[simp] theorem call31 (G : Gl) (N : Nats) (k : Nat) (args : List AV) (S : Subs) : callA (tbl (DR G N) k) (.clo 31 [] []) args S = thenR (prepR [] args S) fun xs S => thenR (gathR xs S) fun qs S => if (roots qs).Nodup then backR qs S (rn (DR G N) k 31 (argsIn qs) (subsIn qs)) else none := callA_rn (D := DR G N) (i := i31) rfl k args S
@[simp] theorem call32 (G : Gl) (N : Nats) (k : Nat) (args : List AV) (S : Subs) : callA (tbl (DR G N) k) (.clo 32 [] []) args S = thenR (prepR [] args S) fun xs S => thenR (gathR xs S) fun qs S => if (roots qs).Nodup then backR qs S (rn (DR G N) k 32 (argsIn qs) (subsIn qs)) else none := callA_rn (D := DR G N) (i := i32) rfl k args S
@[simp] theorem call33 (G : Gl) (N : Nats) (k : Nat) (args : List AV) (S : Subs) : callA (tbl (DR G N) k) (.clo 33 [] []) args S = thenR (prepR [] args S) fun xs S => thenR (gathR xs S) fun qs S => if (roots qs).Nodup then backR qs S (rn (DR G N) k 33 (argsIn qs) (subsIn qs)) else none := callA_rn (D := DR G N) (i := i33) rfl k args S
@[simp] theorem call34 (G : Gl) (N : Nats) (k : Nat) (args : List AV) (S : Subs) : callA (tbl (DR G N) k) (.clo 34 [] []) args S = thenR (prepR [] args S) fun xs S => thenR (gathR xs S) fun qs S => if (roots qs).Nodup then backR qs S (rn (DR G N) k 34 (argsIn qs) (subsIn qs)) else none := callA_rn (D := DR G N) (i := i34) rfl k args S
@[simp] theorem call35 (G : Gl) (N : Nats) (k : Nat) (args : List AV) (S : Subs) : callA (tbl (DR G N) k) (.clo 35 [] []) args S = thenR (prepR [] args S) fun xs S => thenR (gathR xs S) fun qs S => if (roots qs).Nodup then backR qs S (rn (DR G N) k 35 (argsIn qs) (subsIn qs)) else none := callA_rn (D := DR G N) (i := i35) rfl k args S
@[simp] theorem call36 (G : Gl) (N : Nats) (k : Nat) (args : List AV) (S : Subs) : callA (tbl (DR G N) k) (.clo 36 [] []) args S = thenR (prepR [true] args S) fun xs S => thenR (gathR xs S) fun qs S => if (roots qs).Nodup then backR qs S (rn (DR G N) k 36 (argsIn qs) (subsIn qs)) else none := callA_rn (D := DR G N) (i := i36) rfl k args S
@[simp] theorem call37 (G : Gl) (N : Nats) (k : Nat) (args : List AV) (S : Subs) : callA (tbl (DR G N) k) (.clo 37 [] []) args S = thenR (prepR [] args S) fun xs S => thenR (gathR xs S) fun qs S => if (roots qs).Nodup then backR qs S (rn (DR G N) k 37 (argsIn qs) (subsIn qs)) else none := callA_rn (D := DR G N) (i := i37) rfl k args S
@[simp] theorem call38 (G : Gl) (N : Nats) (k : Nat) (args : List AV) (S : Subs) : callA (tbl (DR G N) k) (.clo 38 [] []) args S = thenR (prepR [] args S) fun xs S => thenR (gathR xs S) fun qs S => if (roots qs).Nodup then backR qs S (rn (DR G N) k 38 (argsIn qs) (subsIn qs)) else none := callA_rn (D := DR G N) (i := i38) rfl k args S
@[simp] theorem call39 (G : Gl) (N : Nats) (k : Nat) (args : List AV) (S : Subs) : callA (tbl (DR G N) k) (.clo 39 [] []) args S = thenR (prepR [true, false] args S) fun xs S => thenR (gathR xs S) fun qs S => if (roots qs).Nodup then backR qs S (rn (DR G N) k 39 (argsIn qs) (subsIn qs)) else none := callA_rn (D := DR G N) (i := i39) rfl k args S
@[simp] theorem call44 (G : Gl) (N : Nats) (k : Nat) (args : List AV) (S : Subs) : callA (tbl (DR G N) k) (.clo 44 [] []) args S = thenR (prepR [] args S) fun xs S => thenR (gathR xs S) fun qs S => if (roots qs).Nodup then backR qs S (rn (DR G N) k 44 (argsIn qs) (subsIn qs)) else none := callA_rn (D := DR G N) (i := i44) rfl k args S
@[simp] theorem call47 (G : Gl) (N : Nats) (k : Nat) (args : List AV) (S : Subs) : callA (tbl (DR G N) k) (.clo 47 [] []) args S = thenR (prepR [] args S) fun xs S => thenR (gathR xs S) fun qs S => if (roots qs).Nodup then backR qs S (rn (DR G N) k 47 (argsIn qs) (subsIn qs)) else none := callA_rn (D := DR G N) (i := i47) rfl k args S
@[simp] theorem call48 (G : Gl) (N : Nats) (k : Nat) (args : List AV) (S : Subs) : callA (tbl (DR G N) k) (.clo 48 [] []) args S = thenR (prepR [true] args S) fun xs S => thenR (gathR xs S) fun qs S => if (roots qs).Nodup then backR qs S (rn (DR G N) k 48 (argsIn qs) (subsIn qs)) else none := callA_rn (D := DR G N) (i := i48) rfl k args S
@[simp] theorem call49 (G : Gl) (N : Nats) (k : Nat) (args : List AV) (S : Subs) : callA (tbl (DR G N) k) (.clo 49 [] []) args S = thenR (prepR [] args S) fun xs S => thenR (gathR xs S) fun qs S => if (roots qs).Nodup then backR qs S (rn (DR G N) k 49 (argsIn qs) (subsIn qs)) else none := callA_rn (D := DR G N) (i := i49) rfl k args S
@[simp] theorem call50 (G : Gl) (N : Nats) (k : Nat) (args : List AV) (S : Subs) : callA (tbl (DR G N) k) (.clo 50 [] []) args S = thenR (prepR [false, true, false] args S) fun xs S => thenR (gathR xs S) fun qs S => if (roots qs).Nodup then backR qs S (rn (DR G N) k 50 (argsIn qs) (subsIn qs)) else none := callA_rn (D := DR G N) (i := i50) rfl k args S
@[simp] theorem call51 (G : Gl) (N : Nats) (k : Nat) (args : List AV) (S : Subs) : callA (tbl (DR G N) k) (.clo 51 [] []) args S = thenR (prepR [] args S) fun xs S => thenR (gathR xs S) fun qs S => if (roots qs).Nodup then backR qs S (rn (DR G N) k 51 (argsIn qs) (subsIn qs)) else none := callA_rn (D := DR G N) (i := i51) rfl k args S
@[simp] theorem call52 (G : Gl) (N : Nats) (k : Nat) (args : List AV) (S : Subs) : callA (tbl (DR G N) k) (.clo 52 [] []) args S = thenR (prepR [] args S) fun xs S => thenR (gathR xs S) fun qs S => if (roots qs).Nodup then backR qs S (rn (DR G N) k 52 (argsIn qs) (subsIn qs)) else none := callA_rn (D := DR G N) (i := i52) rfl k args S
@[simp] theorem call53 (G : Gl) (N : Nats) (k : Nat) (args : List AV) (S : Subs) : callA (tbl (DR G N) k) (.clo 53 [] []) args S = thenR (prepR [] args S) fun xs S => thenR (gathR xs S) fun qs S => if (roots qs).Nodup then backR qs S (rn (DR G N) k 53 (argsIn qs) (subsIn qs)) else none := callA_rn (D := DR G N) (i := i53) rfl k args S
@[simp] theorem call56 (G : Gl) (N : Nats) (k : Nat) (args : List AV) (S : Subs) : callA (tbl (DR G N) k) (.clo 56 [] []) args S = thenR (prepR [true, false, false, false] args S) fun xs S => thenR (gathR xs S) fun qs S => if (roots qs).Nodup then backR qs S (rn (DR G N) k 56 (argsIn qs) (subsIn qs)) else none := callA_rn (D := DR G N) (i := i56) rfl k args S
@[simp] theorem call57 (G : Gl) (N : Nats) (k : Nat) (args : List AV) (S : Subs) : callA (tbl (DR G N) k) (.clo 57 [] []) args S = thenR (prepR [] args S) fun xs S => thenR (gathR xs S) fun qs S => if (roots qs).Nodup then backR qs S (rn (DR G N) k 57 (argsIn qs) (subsIn qs)) else none := callA_rn (D := DR G N) (i := i57) rfl k args S
@[simp] theorem call58 (G : Gl) (N : Nats) (k : Nat) (args : List AV) (S : Subs) : callA (tbl (DR G N) k) (.clo 58 [] []) args S = thenR (prepR [] args S) fun xs S => thenR (gathR xs S) fun qs S => if (roots qs).Nodup then backR qs S (rn (DR G N) k 58 (argsIn qs) (subsIn qs)) else none := callA_rn (D := DR G N) (i := i58) rfl k args S
@[simp] theorem call59 (G : Gl) (N : Nats) (k : Nat) (args : List AV) (S : Subs) : callA (tbl (DR G N) k) (.clo 59 [] []) args S = thenR (prepR [] args S) fun xs S => thenR (gathR xs S) fun qs S => if (roots qs).Nodup then backR qs S (rn (DR G N) k 59 (argsIn qs) (subsIn qs)) else none := callA_rn (D := DR G N) (i := i59) rfl k args S
@[simp] theorem call60 (G : Gl) (N : Nats) (k : Nat) (args : List AV) (S : Subs) : callA (tbl (DR G N) k) (.clo 60 [] []) args S = thenR (prepR [] args S) fun xs S => thenR (gathR xs S) fun qs S => if (roots qs).Nodup then backR qs S (rn (DR G N) k 60 (argsIn qs) (subsIn qs)) else none := callA_rn (D := DR G N) (i := i60) rfl k args S
@[simp] theorem call61 (G : Gl) (N : Nats) (k : Nat) (args : List AV) (S : Subs) : callA (tbl (DR G N) k) (.clo 61 [] []) args S = thenR (prepR [] args S) fun xs S => thenR (gathR xs S) fun qs S => if (roots qs).Nodup then backR qs S (rn (DR G N) k 61 (argsIn qs) (subsIn qs)) else none := callA_rn (D := DR G N) (i := i61) rfl k args S
@[simp] theorem call62 (G : Gl) (N : Nats) (k : Nat) (args : List AV) (S : Subs) : callA (tbl (DR G N) k) (.clo 62 [] []) args S = thenR (prepR [true, false, false] args S) fun xs S => thenR (gathR xs S) fun qs S => if (roots qs).Nodup then backR qs S (rn (DR G N) k 62 (argsIn qs) (subsIn qs)) else none := callA_rn (D := DR G N) (i := i62) rfl k args S
@[simp] theorem call63 (G : Gl) (N : Nats) (k : Nat) (args : List AV) (S : Subs) : callA (tbl (DR G N) k) (.clo 63 [] []) args S = thenR (prepR [true, false, false] args S) fun xs S => thenR (gathR xs S) fun qs S => if (roots qs).Nodup then backR qs S (rn (DR G N) k 63 (argsIn qs) (subsIn qs)) else none := callA_rn (D := DR G N) (i := i63) rfl k args S
@[simp] theorem call64 (G : Gl) (N : Nats) (k : Nat) (args : List AV) (S : Subs) : callA (tbl (DR G N) k) (.clo 64 [] []) args S = thenR (prepR [true, false, false] args S) fun xs S => thenR (gathR xs S) fun qs S => if (roots qs).Nodup then backR qs S (rn (DR G N) k 64 (argsIn qs) (subsIn qs)) else none := callA_rn (D := DR G N) (i := i64) rfl k args S
@[simp] theorem call65 (G : Gl) (N : Nats) (k : Nat) (args : List AV) (S : Subs) : callA (tbl (DR G N) k) (.clo 65 [] []) args S = thenR (prepR [true, false, false] args S) fun xs S => thenR (gathR xs S) fun qs S => if (roots qs).Nodup then backR qs S (rn (DR G N) k 65 (argsIn qs) (subsIn qs)) else none := callA_rn (D := DR G N) (i := i65) rfl k args S
@[simp] theorem call66 (G : Gl) (N : Nats) (k : Nat) (args : List AV) (S : Subs) : callA (tbl (DR G N) k) (.clo 66 [] []) args S = thenR (prepR [true, false, false] args S) fun xs S => thenR (gathR xs S) fun qs S => if (roots qs).Nodup then backR qs S (rn (DR G N) k 66 (argsIn qs) (subsIn qs)) else none := callA_rn (D := DR G N) (i := i66) rfl k args S
@[simp] theorem call67 (G : Gl) (N : Nats) (k : Nat) (args : List AV) (S : Subs) : callA (tbl (DR G N) k) (.clo 67 [] []) args S = thenR (prepR [true, false, false] args S) fun xs S => thenR (gathR xs S) fun qs S => if (roots qs).Nodup then backR qs S (rn (DR G N) k 67 (argsIn qs) (subsIn qs)) else none := callA_rn (D := DR G N) (i := i67) rfl k args S
@[simp] theorem call68 (G : Gl) (N : Nats) (k : Nat) (args : List AV) (S : Subs) : callA (tbl (DR G N) k) (.clo 68 [] []) args S = thenR (prepR [] args S) fun xs S => thenR (gathR xs S) fun qs S => if (roots qs).Nodup then backR qs S (rn (DR G N) k 68 (argsIn qs) (subsIn qs)) else none := callA_rn (D := DR G N) (i := i68) rfl k args S
@[simp] theorem call69 (G : Gl) (N : Nats) (k : Nat) (args : List AV) (S : Subs) : callA (tbl (DR G N) k) (.clo 69 [] []) args S = thenR (prepR [true, false, false, false] args S) fun xs S => thenR (gathR xs S) fun qs S => if (roots qs).Nodup then backR qs S (rn (DR G N) k 69 (argsIn qs) (subsIn qs)) else none := callA_rn (D := DR G N) (i := i69) rfl k args S
@[simp] theorem call70 (G : Gl) (N : Nats) (k : Nat) (args : List AV) (S : Subs) : callA (tbl (DR G N) k) (.clo 70 [] []) args S = thenR (prepR [true, false, false, false] args S) fun xs S => thenR (gathR xs S) fun qs S => if (roots qs).Nodup then backR qs S (rn (DR G N) k 70 (argsIn qs) (subsIn qs)) else none := callA_rn (D := DR G N) (i := i70) rfl k args S
@[simp] theorem call71 (G : Gl) (N : Nats) (k : Nat) (args : List AV) (S : Subs) : callA (tbl (DR G N) k) (.clo 71 [] []) args S = thenR (prepR [] args S) fun xs S => thenR (gathR xs S) fun qs S => if (roots qs).Nodup then backR qs S (rn (DR G N) k 71 (argsIn qs) (subsIn qs)) else none := callA_rn (D := DR G N) (i := i71) rfl k args S
@[simp] theorem call72 (G : Gl) (N : Nats) (k : Nat) (args : List AV) (S : Subs) : callA (tbl (DR G N) k) (.clo 72 [] []) args S = thenR (prepR [] args S) fun xs S => thenR (gathR xs S) fun qs S => if (roots qs).Nodup then backR qs S (rn (DR G N) k 72 (argsIn qs) (subsIn qs)) else none := callA_rn (D := DR G N) (i := i72) rfl k args S
@[simp] theorem call73 (G : Gl) (N : Nats) (k : Nat) (args : List AV) (S : Subs) : callA (tbl (DR G N) k) (.clo 73 [] []) args S = thenR (prepR [] args S) fun xs S => thenR (gathR xs S) fun qs S => if (roots qs).Nodup then backR qs S (rn (DR G N) k 73 (argsIn qs) (subsIn qs)) else none := callA_rn (D := DR G N) (i := i73) rfl k args S
@[simp] theorem call74 (G : Gl) (N : Nats) (k : Nat) (args : List AV) (S : Subs) : callA (tbl (DR G N) k) (.clo 74 [] []) args S = thenR (prepR [] args S) fun xs S => thenR (gathR xs S) fun qs S => if (roots qs).Nodup then backR qs S (rn (DR G N) k 74 (argsIn qs) (subsIn qs)) else none := callA_rn (D := DR G N) (i := i74) rfl k args S
@[simp] theorem call75 (G : Gl) (N : Nats) (k : Nat) (args : List AV) (S : Subs) : callA (tbl (DR G N) k) (.clo 75 [] []) args S = thenR (prepR [] args S) fun xs S => thenR (gathR xs S) fun qs S => if (roots qs).Nodup then backR qs S (rn (DR G N) k 75 (argsIn qs) (subsIn qs)) else none := callA_rn (D := DR G N) (i := i75) rfl k args S
@[simp] theorem call76 (G : Gl) (N : Nats) (k : Nat) (args : List AV) (S : Subs) : callA (tbl (DR G N) k) (.clo 76 [] []) args S = thenR (prepR [] args S) fun xs S => thenR (gathR xs S) fun qs S => if (roots qs).Nodup then backR qs S (rn (DR G N) k 76 (argsIn qs) (subsIn qs)) else none := callA_rn (D := DR G N) (i := i76) rfl k args S
@[simp] theorem call77 (G : Gl) (N : Nats) (k : Nat) (args : List AV) (S : Subs) : callA (tbl (DR G N) k) (.clo 77 [] []) args S = thenR (prepR [] args S) fun xs S => thenR (gathR xs S) fun qs S => if (roots qs).Nodup then backR qs S (rn (DR G N) k 77 (argsIn qs) (subsIn qs)) else none := callA_rn (D := DR G N) (i := i77) rfl k args S
@[simp] theorem call78 (G : Gl) (N : Nats) (k : Nat) (args : List AV) (S : Subs) : callA (tbl (DR G N) k) (.clo 78 [] []) args S = thenR (prepR [true, false, false, false] args S) fun xs S => thenR (gathR xs S) fun qs S => if (roots qs).Nodup then backR qs S (rn (DR G N) k 78 (argsIn qs) (subsIn qs)) else none := callA_rn (D := DR G N) (i := i78) rfl k args S
@[simp] theorem call79 (G : Gl) (N : Nats) (k : Nat) (args : List AV) (S : Subs) : callA (tbl (DR G N) k) (.clo 79 [] []) args S = thenR (prepR [] args S) fun xs S => thenR (gathR xs S) fun qs S => if (roots qs).Nodup then backR qs S (rn (DR G N) k 79 (argsIn qs) (subsIn qs)) else none := callA_rn (D := DR G N) (i := i79) rfl k args S
@[simp] theorem call80 (G : Gl) (N : Nats) (k : Nat) (args : List AV) (S : Subs) : callA (tbl (DR G N) k) (.clo 80 [] []) args S = thenR (prepR [] args S) fun xs S => thenR (gathR xs S) fun qs S => if (roots qs).Nodup then backR qs S (rn (DR G N) k 80 (argsIn qs) (subsIn qs)) else none := callA_rn (D := DR G N) (i := i80) rfl k args S
@[simp] theorem call81 (G : Gl) (N : Nats) (k : Nat) (args : List AV) (S : Subs) : callA (tbl (DR G N) k) (.clo 81 [] []) args S = thenR (prepR [true, false, true] args S) fun xs S => thenR (gathR xs S) fun qs S => if (roots qs).Nodup then backR qs S (rn (DR G N) k 81 (argsIn qs) (subsIn qs)) else none := callA_rn (D := DR G N) (i := i81) rfl k args S
@[simp] theorem call82 (G : Gl) (N : Nats) (k : Nat) (args : List AV) (S : Subs) : callA (tbl (DR G N) k) (.clo 82 [] []) args S = thenR (prepR [true, false, false, false, true] args S) fun xs S => thenR (gathR xs S) fun qs S => if (roots qs).Nodup then backR qs S (rn (DR G N) k 82 (argsIn qs) (subsIn qs)) else none := callA_rn (D := DR G N) (i := i82) rfl k args S
@[simp] theorem call83 (G : Gl) (N : Nats) (k : Nat) (args : List AV) (S : Subs) : callA (tbl (DR G N) k) (.clo 83 [] []) args S = thenR (prepR [] args S) fun xs S => thenR (gathR xs S) fun qs S => if (roots qs).Nodup then backR qs S (rn (DR G N) k 83 (argsIn qs) (subsIn qs)) else none := callA_rn (D := DR G N) (i := i83) rfl k args S
@[simp] theorem call84 (G : Gl) (N : Nats) (k : Nat) (args : List AV) (S : Subs) : callA (tbl (DR G N) k) (.clo 84 [] []) args S = thenR (prepR [] args S) fun xs S => thenR (gathR xs S) fun qs S => if (roots qs).Nodup then backR qs S (rn (DR G N) k 84 (argsIn qs) (subsIn qs)) else none := callA_rn (D := DR G N) (i := i84) rfl k args S
@[simp] theorem call85 (G : Gl) (N : Nats) (k : Nat) (args : List AV) (S : Subs) : callA (tbl (DR G N) k) (.clo 85 [] []) args S = thenR (prepR [true, false, false, true] args S) fun xs S => thenR (gathR xs S) fun qs S => if (roots qs).Nodup then backR qs S (rn (DR G N) k 85 (argsIn qs) (subsIn qs)) else none := callA_rn (D := DR G N) (i := i85) rfl k args S
end Go.Proofs.YtmekfllddifglaaDoor.AM
