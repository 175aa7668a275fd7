/- The program's types, as they are looked up. Conditions: none. (Printed by wip/tools/ty.sh.) -/
import Derived.Test.YtncnnbjhginpfaaCxR
import Derived.Test.YtncnnbjhginpfaaProg
import Derived.KernelRfl
namespace Go.Proofs.Ytncnnbjhginpfaa
open Go.Proofs
attribute [cbv_opaque] Try.prog Program.underlying Program.cellsOf Program.bytesOf isAggB zeroL
theorem mixed : Try.prog.follows .mixedOrders = true := by kernel_rfl
@[cbv_eval] theorem tu0 : Try.prog.underlying 0 = some Try.t0.desc := by kernel_rfl
@[cbv_eval] theorem tc0 : Try.prog.cellsOf 0 = Try.t0.size := by kernel_rfl
@[cbv_eval] theorem tb0 : Try.prog.bytesOf 0 = Try.t0.bytes := by kernel_rfl
@[cbv_eval] theorem tg0 : isAggB Try.prog 0 = false := by kernel_rfl
@[cbv_eval] theorem th0 : has Try.prog 0 = True := eq_true ⟨_, tu0⟩
@[cbv_eval] theorem tz0 : zeroL Try.prog 0 = zeroT Try.t0.zero := by kernel_rfl
@[cbv_eval] theorem tu1 : Try.prog.underlying 1 = some Try.t1.desc := by kernel_rfl
@[cbv_eval] theorem tc1 : Try.prog.cellsOf 1 = Try.t1.size := by kernel_rfl
@[cbv_eval] theorem tb1 : Try.prog.bytesOf 1 = Try.t1.bytes := by kernel_rfl
@[cbv_eval] theorem tg1 : isAggB Try.prog 1 = false := by kernel_rfl
@[cbv_eval] theorem th1 : has Try.prog 1 = True := eq_true ⟨_, tu1⟩
@[cbv_eval] theorem tz1 : zeroL Try.prog 1 = zeroT Try.t1.zero := by kernel_rfl
@[cbv_eval] theorem tu2 : Try.prog.underlying 2 = some Try.t2.desc := by kernel_rfl
@[cbv_eval] theorem tc2 : Try.prog.cellsOf 2 = Try.t2.size := by kernel_rfl
@[cbv_eval] theorem tb2 : Try.prog.bytesOf 2 = Try.t2.bytes := by kernel_rfl
@[cbv_eval] theorem tg2 : isAggB Try.prog 2 = false := by kernel_rfl
@[cbv_eval] theorem th2 : has Try.prog 2 = True := eq_true ⟨_, tu2⟩
@[cbv_eval] theorem tz2 : zeroL Try.prog 2 = zeroT Try.t2.zero := by kernel_rfl
@[cbv_eval] theorem tu3 : Try.prog.underlying 3 = some Try.t3.desc := by kernel_rfl
@[cbv_eval] theorem tc3 : Try.prog.cellsOf 3 = Try.t3.size := by kernel_rfl
@[cbv_eval] theorem tb3 : Try.prog.bytesOf 3 = Try.t3.bytes := by kernel_rfl
@[cbv_eval] theorem tg3 : isAggB Try.prog 3 = false := by kernel_rfl
@[cbv_eval] theorem th3 : has Try.prog 3 = True := eq_true ⟨_, tu3⟩
@[cbv_eval] theorem tz3 : zeroL Try.prog 3 = zeroT Try.t3.zero := by kernel_rfl
@[cbv_eval] theorem tu4 : Try.prog.underlying 4 = some Try.t4.desc := by kernel_rfl
@[cbv_eval] theorem tc4 : Try.prog.cellsOf 4 = Try.t4.size := by kernel_rfl
@[cbv_eval] theorem tb4 : Try.prog.bytesOf 4 = Try.t4.bytes := by kernel_rfl
@[cbv_eval] theorem tg4 : isAggB Try.prog 4 = false := by kernel_rfl
@[cbv_eval] theorem th4 : has Try.prog 4 = True := eq_true ⟨_, tu4⟩
@[cbv_eval] theorem tz4 : zeroL Try.prog 4 = zeroT Try.t4.zero := by kernel_rfl
@[cbv_eval] theorem tu5 : Try.prog.underlying 5 = some Try.t5.desc := by kernel_rfl
@[cbv_eval] theorem tc5 : Try.prog.cellsOf 5 = Try.t5.size := by kernel_rfl
@[cbv_eval] theorem tb5 : Try.prog.bytesOf 5 = Try.t5.bytes := by kernel_rfl
@[cbv_eval] theorem tg5 : isAggB Try.prog 5 = false := by kernel_rfl
@[cbv_eval] theorem th5 : has Try.prog 5 = True := eq_true ⟨_, tu5⟩
@[cbv_eval] theorem tz5 : zeroL Try.prog 5 = zeroT Try.t5.zero := by kernel_rfl
@[cbv_eval] theorem tu6 : Try.prog.underlying 6 = some Try.t5.desc := by kernel_rfl
@[cbv_eval] theorem tc6 : Try.prog.cellsOf 6 = Try.t6.size := by kernel_rfl
@[cbv_eval] theorem tb6 : Try.prog.bytesOf 6 = Try.t6.bytes := by kernel_rfl
@[cbv_eval] theorem tg6 : isAggB Try.prog 6 = false := by kernel_rfl
@[cbv_eval] theorem th6 : has Try.prog 6 = True := eq_true ⟨_, tu6⟩
@[cbv_eval] theorem tz6 : zeroL Try.prog 6 = zeroT Try.t6.zero := by kernel_rfl
@[cbv_eval] theorem tu7 : Try.prog.underlying 7 = some Try.t7.desc := by kernel_rfl
@[cbv_eval] theorem tc7 : Try.prog.cellsOf 7 = Try.t7.size := by kernel_rfl
@[cbv_eval] theorem tb7 : Try.prog.bytesOf 7 = Try.t7.bytes := by kernel_rfl
@[cbv_eval] theorem tg7 : isAggB Try.prog 7 = true := by kernel_rfl
@[cbv_eval] theorem th7 : has Try.prog 7 = True := eq_true ⟨_, tu7⟩
@[cbv_eval] theorem tz7 : zeroL Try.prog 7 = zeroT Try.t7.zero := by kernel_rfl
@[cbv_eval] theorem tu8 : Try.prog.underlying 8 = some Try.t7.desc := by kernel_rfl
@[cbv_eval] theorem tc8 : Try.prog.cellsOf 8 = Try.t8.size := by kernel_rfl
@[cbv_eval] theorem tb8 : Try.prog.bytesOf 8 = Try.t8.bytes := by kernel_rfl
@[cbv_eval] theorem tg8 : isAggB Try.prog 8 = true := by kernel_rfl
@[cbv_eval] theorem th8 : has Try.prog 8 = True := eq_true ⟨_, tu8⟩
@[cbv_eval] theorem tz8 : zeroL Try.prog 8 = zeroT Try.t8.zero := by kernel_rfl
@[cbv_eval] theorem tu9 : Try.prog.underlying 9 = some Try.t9.desc := by kernel_rfl
@[cbv_eval] theorem tc9 : Try.prog.cellsOf 9 = Try.t9.size := by kernel_rfl
@[cbv_eval] theorem tb9 : Try.prog.bytesOf 9 = Try.t9.bytes := by kernel_rfl
@[cbv_eval] theorem tg9 : isAggB Try.prog 9 = false := by kernel_rfl
@[cbv_eval] theorem th9 : has Try.prog 9 = True := eq_true ⟨_, tu9⟩
@[cbv_eval] theorem tz9 : zeroL Try.prog 9 = zeroT Try.t9.zero := by kernel_rfl
@[cbv_eval] theorem tu10 : Try.prog.underlying 10 = some Try.t9.desc := by kernel_rfl
@[cbv_eval] theorem tc10 : Try.prog.cellsOf 10 = Try.t10.size := by kernel_rfl
@[cbv_eval] theorem tb10 : Try.prog.bytesOf 10 = Try.t10.bytes := by kernel_rfl
@[cbv_eval] theorem tg10 : isAggB Try.prog 10 = false := by kernel_rfl
@[cbv_eval] theorem th10 : has Try.prog 10 = True := eq_true ⟨_, tu10⟩
@[cbv_eval] theorem tz10 : zeroL Try.prog 10 = zeroT Try.t10.zero := by kernel_rfl
@[cbv_eval] theorem tu11 : Try.prog.underlying 11 = some Try.t9.desc := by kernel_rfl
@[cbv_eval] theorem tc11 : Try.prog.cellsOf 11 = Try.t11.size := by kernel_rfl
@[cbv_eval] theorem tb11 : Try.prog.bytesOf 11 = Try.t11.bytes := by kernel_rfl
@[cbv_eval] theorem tg11 : isAggB Try.prog 11 = false := by kernel_rfl
@[cbv_eval] theorem th11 : has Try.prog 11 = True := eq_true ⟨_, tu11⟩
@[cbv_eval] theorem tz11 : zeroL Try.prog 11 = zeroT Try.t11.zero := by kernel_rfl
@[cbv_eval] theorem tu12 : Try.prog.underlying 12 = some Try.t12.desc := by kernel_rfl
@[cbv_eval] theorem tc12 : Try.prog.cellsOf 12 = Try.t12.size := by kernel_rfl
@[cbv_eval] theorem tb12 : Try.prog.bytesOf 12 = Try.t12.bytes := by kernel_rfl
@[cbv_eval] theorem tg12 : isAggB Try.prog 12 = false := by kernel_rfl
@[cbv_eval] theorem th12 : has Try.prog 12 = True := eq_true ⟨_, tu12⟩
@[cbv_eval] theorem tz12 : zeroL Try.prog 12 = zeroT Try.t12.zero := by kernel_rfl
@[cbv_eval] theorem tu13 : Try.prog.underlying 13 = some Try.t13.desc := by kernel_rfl
@[cbv_eval] theorem tc13 : Try.prog.cellsOf 13 = Try.t13.size := by kernel_rfl
@[cbv_eval] theorem tb13 : Try.prog.bytesOf 13 = Try.t13.bytes := by kernel_rfl
@[cbv_eval] theorem tg13 : isAggB Try.prog 13 = true := by kernel_rfl
@[cbv_eval] theorem th13 : has Try.prog 13 = True := eq_true ⟨_, tu13⟩
@[cbv_eval] theorem tz13 : zeroL Try.prog 13 = zeroT Try.t13.zero := by kernel_rfl
@[cbv_eval] theorem tu14 : Try.prog.underlying 14 = some Try.t13.desc := by kernel_rfl
@[cbv_eval] theorem tc14 : Try.prog.cellsOf 14 = Try.t14.size := by kernel_rfl
@[cbv_eval] theorem tb14 : Try.prog.bytesOf 14 = Try.t14.bytes := by kernel_rfl
@[cbv_eval] theorem tg14 : isAggB Try.prog 14 = true := by kernel_rfl
@[cbv_eval] theorem th14 : has Try.prog 14 = True := eq_true ⟨_, tu14⟩
@[cbv_eval] theorem tz14 : zeroL Try.prog 14 = zeroT Try.t14.zero := by kernel_rfl
@[cbv_eval] theorem tu15 : Try.prog.underlying 15 = some Try.t15.desc := by kernel_rfl
@[cbv_eval] theorem tc15 : Try.prog.cellsOf 15 = Try.t15.size := by kernel_rfl
@[cbv_eval] theorem tb15 : Try.prog.bytesOf 15 = Try.t15.bytes := by kernel_rfl
@[cbv_eval] theorem tg15 : isAggB Try.prog 15 = false := by kernel_rfl
@[cbv_eval] theorem th15 : has Try.prog 15 = True := eq_true ⟨_, tu15⟩
@[cbv_eval] theorem tz15 : zeroL Try.prog 15 = zeroT Try.t15.zero := by kernel_rfl
@[cbv_eval] theorem tu16 : Try.prog.underlying 16 = some Try.t16.desc := by kernel_rfl
@[cbv_eval] theorem tc16 : Try.prog.cellsOf 16 = Try.t16.size := by kernel_rfl
@[cbv_eval] theorem tb16 : Try.prog.bytesOf 16 = Try.t16.bytes := by kernel_rfl
@[cbv_eval] theorem tg16 : isAggB Try.prog 16 = false := by kernel_rfl
@[cbv_eval] theorem th16 : has Try.prog 16 = True := eq_true ⟨_, tu16⟩
@[cbv_eval] theorem tz16 : zeroL Try.prog 16 = zeroT Try.t16.zero := by kernel_rfl
@[cbv_eval] theorem tu17 : Try.prog.underlying 17 = some Try.t17.desc := by kernel_rfl
@[cbv_eval] theorem tc17 : Try.prog.cellsOf 17 = Try.t17.size := by kernel_rfl
@[cbv_eval] theorem tb17 : Try.prog.bytesOf 17 = Try.t17.bytes := by kernel_rfl
@[cbv_eval] theorem tg17 : isAggB Try.prog 17 = false := by kernel_rfl
@[cbv_eval] theorem th17 : has Try.prog 17 = True := eq_true ⟨_, tu17⟩
@[cbv_eval] theorem tz17 : zeroL Try.prog 17 = zeroT Try.t17.zero := by kernel_rfl
@[cbv_eval] theorem tu18 : Try.prog.underlying 18 = some Try.t18.desc := by kernel_rfl
@[cbv_eval] theorem tc18 : Try.prog.cellsOf 18 = Try.t18.size := by kernel_rfl
@[cbv_eval] theorem tb18 : Try.prog.bytesOf 18 = Try.t18.bytes := by kernel_rfl
@[cbv_eval] theorem tg18 : isAggB Try.prog 18 = true := by kernel_rfl
@[cbv_eval] theorem th18 : has Try.prog 18 = True := eq_true ⟨_, tu18⟩
@[cbv_eval] theorem tz18 : zeroL Try.prog 18 = zeroT Try.t18.zero := by kernel_rfl
@[cbv_eval] theorem tu19 : Try.prog.underlying 19 = some Try.t18.desc := by kernel_rfl
@[cbv_eval] theorem tc19 : Try.prog.cellsOf 19 = Try.t19.size := by kernel_rfl
@[cbv_eval] theorem tb19 : Try.prog.bytesOf 19 = Try.t19.bytes := by kernel_rfl
@[cbv_eval] theorem tg19 : isAggB Try.prog 19 = true := by kernel_rfl
@[cbv_eval] theorem th19 : has Try.prog 19 = True := eq_true ⟨_, tu19⟩
@[cbv_eval] theorem tz19 : zeroL Try.prog 19 = zeroT Try.t19.zero := by kernel_rfl
@[cbv_eval] theorem tu20 : Try.prog.underlying 20 = some Try.t20.desc := by kernel_rfl
@[cbv_eval] theorem tc20 : Try.prog.cellsOf 20 = Try.t20.size := by kernel_rfl
@[cbv_eval] theorem tb20 : Try.prog.bytesOf 20 = Try.t20.bytes := by kernel_rfl
@[cbv_eval] theorem tg20 : isAggB Try.prog 20 = false := by kernel_rfl
@[cbv_eval] theorem th20 : has Try.prog 20 = True := eq_true ⟨_, tu20⟩
@[cbv_eval] theorem tz20 : zeroL Try.prog 20 = zeroT Try.t20.zero := by kernel_rfl
@[cbv_eval] theorem tu21 : Try.prog.underlying 21 = some Try.t21.desc := by kernel_rfl
@[cbv_eval] theorem tc21 : Try.prog.cellsOf 21 = Try.t21.size := by kernel_rfl
@[cbv_eval] theorem tb21 : Try.prog.bytesOf 21 = Try.t21.bytes := by kernel_rfl
@[cbv_eval] theorem tg21 : isAggB Try.prog 21 = false := by kernel_rfl
@[cbv_eval] theorem th21 : has Try.prog 21 = True := eq_true ⟨_, tu21⟩
@[cbv_eval] theorem tz21 : zeroL Try.prog 21 = zeroT Try.t21.zero := by kernel_rfl
@[cbv_eval] theorem tu22 : Try.prog.underlying 22 = some Try.t22.desc := by kernel_rfl
@[cbv_eval] theorem tc22 : Try.prog.cellsOf 22 = Try.t22.size := by kernel_rfl
@[cbv_eval] theorem tb22 : Try.prog.bytesOf 22 = Try.t22.bytes := by kernel_rfl
@[cbv_eval] theorem tg22 : isAggB Try.prog 22 = false := by kernel_rfl
@[cbv_eval] theorem th22 : has Try.prog 22 = True := eq_true ⟨_, tu22⟩
@[cbv_eval] theorem tz22 : zeroL Try.prog 22 = zeroT Try.t22.zero := by kernel_rfl
@[cbv_eval] theorem tu23 : Try.prog.underlying 23 = some Try.t23.desc := by kernel_rfl
@[cbv_eval] theorem tc23 : Try.prog.cellsOf 23 = Try.t23.size := by kernel_rfl
@[cbv_eval] theorem tb23 : Try.prog.bytesOf 23 = Try.t23.bytes := by kernel_rfl
@[cbv_eval] theorem tg23 : isAggB Try.prog 23 = false := by kernel_rfl
@[cbv_eval] theorem th23 : has Try.prog 23 = True := eq_true ⟨_, tu23⟩
@[cbv_eval] theorem tz23 : zeroL Try.prog 23 = zeroT Try.t23.zero := by kernel_rfl
@[cbv_eval] theorem tu24 : Try.prog.underlying 24 = some Try.t24.desc := by kernel_rfl
@[cbv_eval] theorem tc24 : Try.prog.cellsOf 24 = Try.t24.size := by kernel_rfl
@[cbv_eval] theorem tb24 : Try.prog.bytesOf 24 = Try.t24.bytes := by kernel_rfl
@[cbv_eval] theorem tg24 : isAggB Try.prog 24 = true := by kernel_rfl
@[cbv_eval] theorem th24 : has Try.prog 24 = True := eq_true ⟨_, tu24⟩
@[cbv_eval] theorem tz24 : zeroL Try.prog 24 = zeroT Try.t24.zero := by kernel_rfl
@[cbv_eval] theorem tu25 : Try.prog.underlying 25 = some Try.t24.desc := by kernel_rfl
@[cbv_eval] theorem tc25 : Try.prog.cellsOf 25 = Try.t25.size := by kernel_rfl
@[cbv_eval] theorem tb25 : Try.prog.bytesOf 25 = Try.t25.bytes := by kernel_rfl
@[cbv_eval] theorem tg25 : isAggB Try.prog 25 = true := by kernel_rfl
@[cbv_eval] theorem th25 : has Try.prog 25 = True := eq_true ⟨_, tu25⟩
@[cbv_eval] theorem tz25 : zeroL Try.prog 25 = zeroT Try.t25.zero := by kernel_rfl
@[cbv_eval] theorem tu26 : Try.prog.underlying 26 = some Try.t26.desc := by kernel_rfl
@[cbv_eval] theorem tc26 : Try.prog.cellsOf 26 = Try.t26.size := by kernel_rfl
@[cbv_eval] theorem tb26 : Try.prog.bytesOf 26 = Try.t26.bytes := by kernel_rfl
@[cbv_eval] theorem tg26 : isAggB Try.prog 26 = false := by kernel_rfl
@[cbv_eval] theorem th26 : has Try.prog 26 = True := eq_true ⟨_, tu26⟩
@[cbv_eval] theorem tz26 : zeroL Try.prog 26 = zeroT Try.t26.zero := by kernel_rfl
@[cbv_eval] theorem tu27 : Try.prog.underlying 27 = some Try.t27.desc := by kernel_rfl
@[cbv_eval] theorem tc27 : Try.prog.cellsOf 27 = Try.t27.size := by kernel_rfl
@[cbv_eval] theorem tb27 : Try.prog.bytesOf 27 = Try.t27.bytes := by kernel_rfl
@[cbv_eval] theorem tg27 : isAggB Try.prog 27 = false := by kernel_rfl
@[cbv_eval] theorem th27 : has Try.prog 27 = True := eq_true ⟨_, tu27⟩
@[cbv_eval] theorem tz27 : zeroL Try.prog 27 = zeroT Try.t27.zero := by kernel_rfl
@[cbv_eval] theorem tu28 : Try.prog.underlying 28 = some Try.t28.desc := by kernel_rfl
@[cbv_eval] theorem tc28 : Try.prog.cellsOf 28 = Try.t28.size := by kernel_rfl
@[cbv_eval] theorem tb28 : Try.prog.bytesOf 28 = Try.t28.bytes := by kernel_rfl
@[cbv_eval] theorem tg28 : isAggB Try.prog 28 = false := by kernel_rfl
@[cbv_eval] theorem th28 : has Try.prog 28 = True := eq_true ⟨_, tu28⟩
@[cbv_eval] theorem tz28 : zeroL Try.prog 28 = zeroT Try.t28.zero := by kernel_rfl
@[cbv_eval] theorem tu29 : Try.prog.underlying 29 = some Try.t29.desc := by kernel_rfl
@[cbv_eval] theorem tc29 : Try.prog.cellsOf 29 = Try.t29.size := by kernel_rfl
@[cbv_eval] theorem tb29 : Try.prog.bytesOf 29 = Try.t29.bytes := by kernel_rfl
@[cbv_eval] theorem tg29 : isAggB Try.prog 29 = false := by kernel_rfl
@[cbv_eval] theorem th29 : has Try.prog 29 = True := eq_true ⟨_, tu29⟩
@[cbv_eval] theorem tz29 : zeroL Try.prog 29 = zeroT Try.t29.zero := by kernel_rfl
@[cbv_eval] theorem tu30 : Try.prog.underlying 30 = some Try.t30.desc := by kernel_rfl
@[cbv_eval] theorem tc30 : Try.prog.cellsOf 30 = Try.t30.size := by kernel_rfl
@[cbv_eval] theorem tb30 : Try.prog.bytesOf 30 = Try.t30.bytes := by kernel_rfl
@[cbv_eval] theorem tg30 : isAggB Try.prog 30 = false := by kernel_rfl
@[cbv_eval] theorem th30 : has Try.prog 30 = True := eq_true ⟨_, tu30⟩
@[cbv_eval] theorem tz30 : zeroL Try.prog 30 = zeroT Try.t30.zero := by kernel_rfl
@[cbv_eval] theorem tu31 : Try.prog.underlying 31 = some Try.t31.desc := by kernel_rfl
@[cbv_eval] theorem tc31 : Try.prog.cellsOf 31 = Try.t31.size := by kernel_rfl
@[cbv_eval] theorem tb31 : Try.prog.bytesOf 31 = Try.t31.bytes := by kernel_rfl
@[cbv_eval] theorem tg31 : isAggB Try.prog 31 = false := by kernel_rfl
@[cbv_eval] theorem th31 : has Try.prog 31 = True := eq_true ⟨_, tu31⟩
@[cbv_eval] theorem tz31 : zeroL Try.prog 31 = zeroT Try.t31.zero := by kernel_rfl
@[cbv_eval] theorem tu32 : Try.prog.underlying 32 = some Try.t32.desc := by kernel_rfl
@[cbv_eval] theorem tc32 : Try.prog.cellsOf 32 = Try.t32.size := by kernel_rfl
@[cbv_eval] theorem tb32 : Try.prog.bytesOf 32 = Try.t32.bytes := by kernel_rfl
@[cbv_eval] theorem tg32 : isAggB Try.prog 32 = false := by kernel_rfl
@[cbv_eval] theorem th32 : has Try.prog 32 = True := eq_true ⟨_, tu32⟩
@[cbv_eval] theorem tz32 : zeroL Try.prog 32 = zeroT Try.t32.zero := by kernel_rfl
@[cbv_eval] theorem tu33 : Try.prog.underlying 33 = some Try.t33.desc := by kernel_rfl
@[cbv_eval] theorem tc33 : Try.prog.cellsOf 33 = Try.t33.size := by kernel_rfl
@[cbv_eval] theorem tb33 : Try.prog.bytesOf 33 = Try.t33.bytes := by kernel_rfl
@[cbv_eval] theorem tg33 : isAggB Try.prog 33 = false := by kernel_rfl
@[cbv_eval] theorem th33 : has Try.prog 33 = True := eq_true ⟨_, tu33⟩
@[cbv_eval] theorem tz33 : zeroL Try.prog 33 = zeroT Try.t33.zero := by kernel_rfl
@[cbv_eval] theorem tu34 : Try.prog.underlying 34 = some Try.t34.desc := by kernel_rfl
@[cbv_eval] theorem tc34 : Try.prog.cellsOf 34 = Try.t34.size := by kernel_rfl
@[cbv_eval] theorem tb34 : Try.prog.bytesOf 34 = Try.t34.bytes := by kernel_rfl
@[cbv_eval] theorem tg34 : isAggB Try.prog 34 = false := by kernel_rfl
@[cbv_eval] theorem th34 : has Try.prog 34 = True := eq_true ⟨_, tu34⟩
@[cbv_eval] theorem tz34 : zeroL Try.prog 34 = zeroT Try.t34.zero := by kernel_rfl
@[cbv_eval] theorem tu35 : Try.prog.underlying 35 = some Try.t35.desc := by kernel_rfl
@[cbv_eval] theorem tc35 : Try.prog.cellsOf 35 = Try.t35.size := by kernel_rfl
@[cbv_eval] theorem tb35 : Try.prog.bytesOf 35 = Try.t35.bytes := by kernel_rfl
@[cbv_eval] theorem tg35 : isAggB Try.prog 35 = false := by kernel_rfl
@[cbv_eval] theorem th35 : has Try.prog 35 = True := eq_true ⟨_, tu35⟩
@[cbv_eval] theorem tz35 : zeroL Try.prog 35 = zeroT Try.t35.zero := by kernel_rfl
@[cbv_eval] theorem tu36 : Try.prog.underlying 36 = some Try.t36.desc := by kernel_rfl
@[cbv_eval] theorem tc36 : Try.prog.cellsOf 36 = Try.t36.size := by kernel_rfl
@[cbv_eval] theorem tb36 : Try.prog.bytesOf 36 = Try.t36.bytes := by kernel_rfl
@[cbv_eval] theorem tg36 : isAggB Try.prog 36 = false := by kernel_rfl
@[cbv_eval] theorem th36 : has Try.prog 36 = True := eq_true ⟨_, tu36⟩
@[cbv_eval] theorem tz36 : zeroL Try.prog 36 = zeroT Try.t36.zero := by kernel_rfl
@[cbv_eval] theorem tu37 : Try.prog.underlying 37 = some Try.t37.desc := by kernel_rfl
@[cbv_eval] theorem tc37 : Try.prog.cellsOf 37 = Try.t37.size := by kernel_rfl
@[cbv_eval] theorem tb37 : Try.prog.bytesOf 37 = Try.t37.bytes := by kernel_rfl
@[cbv_eval] theorem tg37 : isAggB Try.prog 37 = false := by kernel_rfl
@[cbv_eval] theorem th37 : has Try.prog 37 = True := eq_true ⟨_, tu37⟩
@[cbv_eval] theorem tz37 : zeroL Try.prog 37 = zeroT Try.t37.zero := by kernel_rfl
@[cbv_eval] theorem tu38 : Try.prog.underlying 38 = some Try.t38.desc := by kernel_rfl
@[cbv_eval] theorem tc38 : Try.prog.cellsOf 38 = Try.t38.size := by kernel_rfl
@[cbv_eval] theorem tb38 : Try.prog.bytesOf 38 = Try.t38.bytes := by kernel_rfl
@[cbv_eval] theorem tg38 : isAggB Try.prog 38 = false := by kernel_rfl
@[cbv_eval] theorem th38 : has Try.prog 38 = True := eq_true ⟨_, tu38⟩
@[cbv_eval] theorem tz38 : zeroL Try.prog 38 = zeroT Try.t38.zero := by kernel_rfl
@[cbv_eval] theorem tu39 : Try.prog.underlying 39 = some Try.t39.desc := by kernel_rfl
@[cbv_eval] theorem tc39 : Try.prog.cellsOf 39 = Try.t39.size := by kernel_rfl
@[cbv_eval] theorem tb39 : Try.prog.bytesOf 39 = Try.t39.bytes := by kernel_rfl
@[cbv_eval] theorem tg39 : isAggB Try.prog 39 = false := by kernel_rfl
@[cbv_eval] theorem th39 : has Try.prog 39 = True := eq_true ⟨_, tu39⟩
@[cbv_eval] theorem tz39 : zeroL Try.prog 39 = zeroT Try.t39.zero := by kernel_rfl
@[cbv_eval] theorem tu40 : Try.prog.underlying 40 = some Try.t40.desc := by kernel_rfl
@[cbv_eval] theorem tc40 : Try.prog.cellsOf 40 = Try.t40.size := by kernel_rfl
@[cbv_eval] theorem tb40 : Try.prog.bytesOf 40 = Try.t40.bytes := by kernel_rfl
@[cbv_eval] theorem tg40 : isAggB Try.prog 40 = false := by kernel_rfl
@[cbv_eval] theorem th40 : has Try.prog 40 = True := eq_true ⟨_, tu40⟩
@[cbv_eval] theorem tz40 : zeroL Try.prog 40 = zeroT Try.t40.zero := by kernel_rfl
@[cbv_eval] theorem tu41 : Try.prog.underlying 41 = some Try.t41.desc := by kernel_rfl
@[cbv_eval] theorem tc41 : Try.prog.cellsOf 41 = Try.t41.size := by kernel_rfl
@[cbv_eval] theorem tb41 : Try.prog.bytesOf 41 = Try.t41.bytes := by kernel_rfl
@[cbv_eval] theorem tg41 : isAggB Try.prog 41 = false := by kernel_rfl
@[cbv_eval] theorem th41 : has Try.prog 41 = True := eq_true ⟨_, tu41⟩
@[cbv_eval] theorem tz41 : zeroL Try.prog 41 = zeroT Try.t41.zero := by kernel_rfl
@[cbv_eval] theorem tu42 : Try.prog.underlying 42 = some Try.t42.desc := by kernel_rfl
@[cbv_eval] theorem tc42 : Try.prog.cellsOf 42 = Try.t42.size := by kernel_rfl
@[cbv_eval] theorem tb42 : Try.prog.bytesOf 42 = Try.t42.bytes := by kernel_rfl
@[cbv_eval] theorem tg42 : isAggB Try.prog 42 = false := by kernel_rfl
@[cbv_eval] theorem th42 : has Try.prog 42 = True := eq_true ⟨_, tu42⟩
@[cbv_eval] theorem tz42 : zeroL Try.prog 42 = zeroT Try.t42.zero := by kernel_rfl
@[cbv_eval] theorem tu43 : Try.prog.underlying 43 = some Try.t43.desc := by kernel_rfl
@[cbv_eval] theorem tc43 : Try.prog.cellsOf 43 = Try.t43.size := by kernel_rfl
@[cbv_eval] theorem tb43 : Try.prog.bytesOf 43 = Try.t43.bytes := by kernel_rfl
@[cbv_eval] theorem tg43 : isAggB Try.prog 43 = false := by kernel_rfl
@[cbv_eval] theorem th43 : has Try.prog 43 = True := eq_true ⟨_, tu43⟩
@[cbv_eval] theorem tz43 : zeroL Try.prog 43 = zeroT Try.t43.zero := by kernel_rfl
@[cbv_eval] theorem tu44 : Try.prog.underlying 44 = some Try.t44.desc := by kernel_rfl
@[cbv_eval] theorem tc44 : Try.prog.cellsOf 44 = Try.t44.size := by kernel_rfl
@[cbv_eval] theorem tb44 : Try.prog.bytesOf 44 = Try.t44.bytes := by kernel_rfl
@[cbv_eval] theorem tg44 : isAggB Try.prog 44 = false := by kernel_rfl
@[cbv_eval] theorem th44 : has Try.prog 44 = True := eq_true ⟨_, tu44⟩
@[cbv_eval] theorem tz44 : zeroL Try.prog 44 = zeroT Try.t44.zero := by kernel_rfl
@[cbv_eval] theorem tu45 : Try.prog.underlying 45 = some Try.t45.desc := by kernel_rfl
@[cbv_eval] theorem tc45 : Try.prog.cellsOf 45 = Try.t45.size := by kernel_rfl
@[cbv_eval] theorem tb45 : Try.prog.bytesOf 45 = Try.t45.bytes := by kernel_rfl
@[cbv_eval] theorem tg45 : isAggB Try.prog 45 = false := by kernel_rfl
@[cbv_eval] theorem th45 : has Try.prog 45 = True := eq_true ⟨_, tu45⟩
@[cbv_eval] theorem tz45 : zeroL Try.prog 45 = zeroT Try.t45.zero := by kernel_rfl
@[cbv_eval] theorem tu46 : Try.prog.underlying 46 = some Try.t46.desc := by kernel_rfl
@[cbv_eval] theorem tc46 : Try.prog.cellsOf 46 = Try.t46.size := by kernel_rfl
@[cbv_eval] theorem tb46 : Try.prog.bytesOf 46 = Try.t46.bytes := by kernel_rfl
@[cbv_eval] theorem tg46 : isAggB Try.prog 46 = false := by kernel_rfl
@[cbv_eval] theorem th46 : has Try.prog 46 = True := eq_true ⟨_, tu46⟩
@[cbv_eval] theorem tz46 : zeroL Try.prog 46 = zeroT Try.t46.zero := by kernel_rfl
@[cbv_eval] theorem tu47 : Try.prog.underlying 47 = some Try.t47.desc := by kernel_rfl
@[cbv_eval] theorem tc47 : Try.prog.cellsOf 47 = Try.t47.size := by kernel_rfl
@[cbv_eval] theorem tb47 : Try.prog.bytesOf 47 = Try.t47.bytes := by kernel_rfl
@[cbv_eval] theorem tg47 : isAggB Try.prog 47 = false := by kernel_rfl
@[cbv_eval] theorem th47 : has Try.prog 47 = True := eq_true ⟨_, tu47⟩
@[cbv_eval] theorem tz47 : zeroL Try.prog 47 = zeroT Try.t47.zero := by kernel_rfl
@[cbv_eval] theorem tu48 : Try.prog.underlying 48 = some Try.t48.desc := by kernel_rfl
@[cbv_eval] theorem tc48 : Try.prog.cellsOf 48 = Try.t48.size := by kernel_rfl
@[cbv_eval] theorem tb48 : Try.prog.bytesOf 48 = Try.t48.bytes := by kernel_rfl
@[cbv_eval] theorem tg48 : isAggB Try.prog 48 = false := by kernel_rfl
@[cbv_eval] theorem th48 : has Try.prog 48 = True := eq_true ⟨_, tu48⟩
@[cbv_eval] theorem tz48 : zeroL Try.prog 48 = zeroT Try.t48.zero := by kernel_rfl
@[cbv_eval] theorem tu49 : Try.prog.underlying 49 = some Try.t49.desc := by kernel_rfl
@[cbv_eval] theorem tc49 : Try.prog.cellsOf 49 = Try.t49.size := by kernel_rfl
@[cbv_eval] theorem tb49 : Try.prog.bytesOf 49 = Try.t49.bytes := by kernel_rfl
@[cbv_eval] theorem tg49 : isAggB Try.prog 49 = false := by kernel_rfl
@[cbv_eval] theorem th49 : has Try.prog 49 = True := eq_true ⟨_, tu49⟩
@[cbv_eval] theorem tz49 : zeroL Try.prog 49 = zeroT Try.t49.zero := by kernel_rfl
@[cbv_eval] theorem tu50 : Try.prog.underlying 50 = some Try.t50.desc := by kernel_rfl
@[cbv_eval] theorem tc50 : Try.prog.cellsOf 50 = Try.t50.size := by kernel_rfl
@[cbv_eval] theorem tb50 : Try.prog.bytesOf 50 = Try.t50.bytes := by kernel_rfl
@[cbv_eval] theorem tg50 : isAggB Try.prog 50 = false := by kernel_rfl
@[cbv_eval] theorem th50 : has Try.prog 50 = True := eq_true ⟨_, tu50⟩
@[cbv_eval] theorem tz50 : zeroL Try.prog 50 = zeroT Try.t50.zero := by kernel_rfl
@[cbv_eval] theorem tu51 : Try.prog.underlying 51 = some Try.t51.desc := by kernel_rfl
@[cbv_eval] theorem tc51 : Try.prog.cellsOf 51 = Try.t51.size := by kernel_rfl
@[cbv_eval] theorem tb51 : Try.prog.bytesOf 51 = Try.t51.bytes := by kernel_rfl
@[cbv_eval] theorem tg51 : isAggB Try.prog 51 = false := by kernel_rfl
@[cbv_eval] theorem th51 : has Try.prog 51 = True := eq_true ⟨_, tu51⟩
@[cbv_eval] theorem tz51 : zeroL Try.prog 51 = zeroT Try.t51.zero := by kernel_rfl
@[cbv_eval] theorem tu52 : Try.prog.underlying 52 = some Try.t52.desc := by kernel_rfl
@[cbv_eval] theorem tc52 : Try.prog.cellsOf 52 = Try.t52.size := by kernel_rfl
@[cbv_eval] theorem tb52 : Try.prog.bytesOf 52 = Try.t52.bytes := by kernel_rfl
@[cbv_eval] theorem tg52 : isAggB Try.prog 52 = false := by kernel_rfl
@[cbv_eval] theorem th52 : has Try.prog 52 = True := eq_true ⟨_, tu52⟩
@[cbv_eval] theorem tz52 : zeroL Try.prog 52 = zeroT Try.t52.zero := by kernel_rfl
@[cbv_eval] theorem tu53 : Try.prog.underlying 53 = some Try.t53.desc := by kernel_rfl
@[cbv_eval] theorem tc53 : Try.prog.cellsOf 53 = Try.t53.size := by kernel_rfl
@[cbv_eval] theorem tb53 : Try.prog.bytesOf 53 = Try.t53.bytes := by kernel_rfl
@[cbv_eval] theorem tg53 : isAggB Try.prog 53 = false := by kernel_rfl
@[cbv_eval] theorem th53 : has Try.prog 53 = True := eq_true ⟨_, tu53⟩
@[cbv_eval] theorem tz53 : zeroL Try.prog 53 = zeroT Try.t53.zero := by kernel_rfl
@[cbv_eval] theorem tu54 : Try.prog.underlying 54 = some Try.t54.desc := by kernel_rfl
@[cbv_eval] theorem tc54 : Try.prog.cellsOf 54 = Try.t54.size := by kernel_rfl
@[cbv_eval] theorem tb54 : Try.prog.bytesOf 54 = Try.t54.bytes := by kernel_rfl
@[cbv_eval] theorem tg54 : isAggB Try.prog 54 = false := by kernel_rfl
@[cbv_eval] theorem th54 : has Try.prog 54 = True := eq_true ⟨_, tu54⟩
@[cbv_eval] theorem tz54 : zeroL Try.prog 54 = zeroT Try.t54.zero := by kernel_rfl
@[cbv_eval] theorem tu55 : Try.prog.underlying 55 = some Try.t55.desc := by kernel_rfl
@[cbv_eval] theorem tc55 : Try.prog.cellsOf 55 = Try.t55.size := by kernel_rfl
@[cbv_eval] theorem tb55 : Try.prog.bytesOf 55 = Try.t55.bytes := by kernel_rfl
@[cbv_eval] theorem tg55 : isAggB Try.prog 55 = false := by kernel_rfl
@[cbv_eval] theorem th55 : has Try.prog 55 = True := eq_true ⟨_, tu55⟩
@[cbv_eval] theorem tz55 : zeroL Try.prog 55 = zeroT Try.t55.zero := by kernel_rfl
@[cbv_eval] theorem tu56 : Try.prog.underlying 56 = some Try.t56.desc := by kernel_rfl
@[cbv_eval] theorem tc56 : Try.prog.cellsOf 56 = Try.t56.size := by kernel_rfl
@[cbv_eval] theorem tb56 : Try.prog.bytesOf 56 = Try.t56.bytes := by kernel_rfl
@[cbv_eval] theorem tg56 : isAggB Try.prog 56 = false := by kernel_rfl
@[cbv_eval] theorem th56 : has Try.prog 56 = True := eq_true ⟨_, tu56⟩
@[cbv_eval] theorem tz56 : zeroL Try.prog 56 = zeroT Try.t56.zero := by kernel_rfl
@[cbv_eval] theorem tu57 : Try.prog.underlying 57 = some Try.t57.desc := by kernel_rfl
@[cbv_eval] theorem tc57 : Try.prog.cellsOf 57 = Try.t57.size := by kernel_rfl
@[cbv_eval] theorem tb57 : Try.prog.bytesOf 57 = Try.t57.bytes := by kernel_rfl
@[cbv_eval] theorem tg57 : isAggB Try.prog 57 = false := by kernel_rfl
@[cbv_eval] theorem th57 : has Try.prog 57 = True := eq_true ⟨_, tu57⟩
@[cbv_eval] theorem tz57 : zeroL Try.prog 57 = zeroT Try.t57.zero := by kernel_rfl
@[cbv_eval] theorem tu58 : Try.prog.underlying 58 = some Try.t58.desc := by kernel_rfl
@[cbv_eval] theorem tc58 : Try.prog.cellsOf 58 = Try.t58.size := by kernel_rfl
@[cbv_eval] theorem tb58 : Try.prog.bytesOf 58 = Try.t58.bytes := by kernel_rfl
@[cbv_eval] theorem tg58 : isAggB Try.prog 58 = false := by kernel_rfl
@[cbv_eval] theorem th58 : has Try.prog 58 = True := eq_true ⟨_, tu58⟩
@[cbv_eval] theorem tz58 : zeroL Try.prog 58 = zeroT Try.t58.zero := by kernel_rfl
@[cbv_eval] theorem tu59 : Try.prog.underlying 59 = some Try.t59.desc := by kernel_rfl
@[cbv_eval] theorem tc59 : Try.prog.cellsOf 59 = Try.t59.size := by kernel_rfl
@[cbv_eval] theorem tb59 : Try.prog.bytesOf 59 = Try.t59.bytes := by kernel_rfl
@[cbv_eval] theorem tg59 : isAggB Try.prog 59 = false := by kernel_rfl
@[cbv_eval] theorem th59 : has Try.prog 59 = True := eq_true ⟨_, tu59⟩
@[cbv_eval] theorem tz59 : zeroL Try.prog 59 = zeroT Try.t59.zero := by kernel_rfl
@[cbv_eval] theorem tu60 : Try.prog.underlying 60 = some Try.t60.desc := by kernel_rfl
@[cbv_eval] theorem tc60 : Try.prog.cellsOf 60 = Try.t60.size := by kernel_rfl
@[cbv_eval] theorem tb60 : Try.prog.bytesOf 60 = Try.t60.bytes := by kernel_rfl
@[cbv_eval] theorem tg60 : isAggB Try.prog 60 = false := by kernel_rfl
@[cbv_eval] theorem th60 : has Try.prog 60 = True := eq_true ⟨_, tu60⟩
@[cbv_eval] theorem tz60 : zeroL Try.prog 60 = zeroT Try.t60.zero := by kernel_rfl
@[cbv_eval] theorem tu61 : Try.prog.underlying 61 = some Try.t61.desc := by kernel_rfl
@[cbv_eval] theorem tc61 : Try.prog.cellsOf 61 = Try.t61.size := by kernel_rfl
@[cbv_eval] theorem tb61 : Try.prog.bytesOf 61 = Try.t61.bytes := by kernel_rfl
@[cbv_eval] theorem tg61 : isAggB Try.prog 61 = false := by kernel_rfl
@[cbv_eval] theorem th61 : has Try.prog 61 = True := eq_true ⟨_, tu61⟩
@[cbv_eval] theorem tz61 : zeroL Try.prog 61 = zeroT Try.t61.zero := by kernel_rfl
@[cbv_eval] theorem tu62 : Try.prog.underlying 62 = some Try.t62.desc := by kernel_rfl
@[cbv_eval] theorem tc62 : Try.prog.cellsOf 62 = Try.t62.size := by kernel_rfl
@[cbv_eval] theorem tb62 : Try.prog.bytesOf 62 = Try.t62.bytes := by kernel_rfl
@[cbv_eval] theorem tg62 : isAggB Try.prog 62 = false := by kernel_rfl
@[cbv_eval] theorem th62 : has Try.prog 62 = True := eq_true ⟨_, tu62⟩
@[cbv_eval] theorem tz62 : zeroL Try.prog 62 = zeroT Try.t62.zero := by kernel_rfl
@[cbv_eval] theorem tu63 : Try.prog.underlying 63 = some Try.t63.desc := by kernel_rfl
@[cbv_eval] theorem tc63 : Try.prog.cellsOf 63 = Try.t63.size := by kernel_rfl
@[cbv_eval] theorem tb63 : Try.prog.bytesOf 63 = Try.t63.bytes := by kernel_rfl
@[cbv_eval] theorem tg63 : isAggB Try.prog 63 = false := by kernel_rfl
@[cbv_eval] theorem th63 : has Try.prog 63 = True := eq_true ⟨_, tu63⟩
@[cbv_eval] theorem tz63 : zeroL Try.prog 63 = zeroT Try.t63.zero := by kernel_rfl
@[cbv_eval] theorem tu64 : Try.prog.underlying 64 = some Try.t64.desc := by kernel_rfl
@[cbv_eval] theorem tc64 : Try.prog.cellsOf 64 = Try.t64.size := by kernel_rfl
@[cbv_eval] theorem tb64 : Try.prog.bytesOf 64 = Try.t64.bytes := by kernel_rfl
@[cbv_eval] theorem tg64 : isAggB Try.prog 64 = false := by kernel_rfl
@[cbv_eval] theorem th64 : has Try.prog 64 = True := eq_true ⟨_, tu64⟩
@[cbv_eval] theorem tz64 : zeroL Try.prog 64 = zeroT Try.t64.zero := by kernel_rfl
@[cbv_eval] theorem tu65 : Try.prog.underlying 65 = some Try.t65.desc := by kernel_rfl
@[cbv_eval] theorem tc65 : Try.prog.cellsOf 65 = Try.t65.size := by kernel_rfl
@[cbv_eval] theorem tb65 : Try.prog.bytesOf 65 = Try.t65.bytes := by kernel_rfl
@[cbv_eval] theorem tg65 : isAggB Try.prog 65 = false := by kernel_rfl
@[cbv_eval] theorem th65 : has Try.prog 65 = True := eq_true ⟨_, tu65⟩
@[cbv_eval] theorem tz65 : zeroL Try.prog 65 = zeroT Try.t65.zero := by kernel_rfl
@[cbv_eval] theorem tu66 : Try.prog.underlying 66 = some Try.t66.desc := by kernel_rfl
@[cbv_eval] theorem tc66 : Try.prog.cellsOf 66 = Try.t66.size := by kernel_rfl
@[cbv_eval] theorem tb66 : Try.prog.bytesOf 66 = Try.t66.bytes := by kernel_rfl
@[cbv_eval] theorem tg66 : isAggB Try.prog 66 = false := by kernel_rfl
@[cbv_eval] theorem th66 : has Try.prog 66 = True := eq_true ⟨_, tu66⟩
@[cbv_eval] theorem tz66 : zeroL Try.prog 66 = zeroT Try.t66.zero := by kernel_rfl
@[cbv_eval] theorem tu67 : Try.prog.underlying 67 = some Try.t67.desc := by kernel_rfl
@[cbv_eval] theorem tc67 : Try.prog.cellsOf 67 = Try.t67.size := by kernel_rfl
@[cbv_eval] theorem tb67 : Try.prog.bytesOf 67 = Try.t67.bytes := by kernel_rfl
@[cbv_eval] theorem tg67 : isAggB Try.prog 67 = false := by kernel_rfl
@[cbv_eval] theorem th67 : has Try.prog 67 = True := eq_true ⟨_, tu67⟩
@[cbv_eval] theorem tz67 : zeroL Try.prog 67 = zeroT Try.t67.zero := by kernel_rfl
@[cbv_eval] theorem tu68 : Try.prog.underlying 68 = some Try.t68.desc := by kernel_rfl
@[cbv_eval] theorem tc68 : Try.prog.cellsOf 68 = Try.t68.size := by kernel_rfl
@[cbv_eval] theorem tb68 : Try.prog.bytesOf 68 = Try.t68.bytes := by kernel_rfl
@[cbv_eval] theorem tg68 : isAggB Try.prog 68 = false := by kernel_rfl
@[cbv_eval] theorem th68 : has Try.prog 68 = True := eq_true ⟨_, tu68⟩
@[cbv_eval] theorem tz68 : zeroL Try.prog 68 = zeroT Try.t68.zero := by kernel_rfl
@[cbv_eval] theorem tu69 : Try.prog.underlying 69 = some Try.t69.desc := by kernel_rfl
@[cbv_eval] theorem tc69 : Try.prog.cellsOf 69 = Try.t69.size := by kernel_rfl
@[cbv_eval] theorem tb69 : Try.prog.bytesOf 69 = Try.t69.bytes := by kernel_rfl
@[cbv_eval] theorem tg69 : isAggB Try.prog 69 = false := by kernel_rfl
@[cbv_eval] theorem th69 : has Try.prog 69 = True := eq_true ⟨_, tu69⟩
@[cbv_eval] theorem tz69 : zeroL Try.prog 69 = zeroT Try.t69.zero := by kernel_rfl
@[cbv_eval] theorem tu70 : Try.prog.underlying 70 = some Try.t70.desc := by kernel_rfl
@[cbv_eval] theorem tc70 : Try.prog.cellsOf 70 = Try.t70.size := by kernel_rfl
@[cbv_eval] theorem tb70 : Try.prog.bytesOf 70 = Try.t70.bytes := by kernel_rfl
@[cbv_eval] theorem tg70 : isAggB Try.prog 70 = false := by kernel_rfl
@[cbv_eval] theorem th70 : has Try.prog 70 = True := eq_true ⟨_, tu70⟩
@[cbv_eval] theorem tz70 : zeroL Try.prog 70 = zeroT Try.t70.zero := by kernel_rfl
@[cbv_eval] theorem tu71 : Try.prog.underlying 71 = some Try.t71.desc := by kernel_rfl
@[cbv_eval] theorem tc71 : Try.prog.cellsOf 71 = Try.t71.size := by kernel_rfl
@[cbv_eval] theorem tb71 : Try.prog.bytesOf 71 = Try.t71.bytes := by kernel_rfl
@[cbv_eval] theorem tg71 : isAggB Try.prog 71 = false := by kernel_rfl
@[cbv_eval] theorem th71 : has Try.prog 71 = True := eq_true ⟨_, tu71⟩
@[cbv_eval] theorem tz71 : zeroL Try.prog 71 = zeroT Try.t71.zero := by kernel_rfl
@[cbv_eval] theorem tu72 : Try.prog.underlying 72 = some Try.t72.desc := by kernel_rfl
@[cbv_eval] theorem tc72 : Try.prog.cellsOf 72 = Try.t72.size := by kernel_rfl
@[cbv_eval] theorem tb72 : Try.prog.bytesOf 72 = Try.t72.bytes := by kernel_rfl
@[cbv_eval] theorem tg72 : isAggB Try.prog 72 = true := by kernel_rfl
@[cbv_eval] theorem th72 : has Try.prog 72 = True := eq_true ⟨_, tu72⟩
@[cbv_eval] theorem tz72 : zeroL Try.prog 72 = zeroT Try.t72.zero := by kernel_rfl
@[cbv_eval] theorem tu73 : Try.prog.underlying 73 = some Try.t72.desc := by kernel_rfl
@[cbv_eval] theorem tc73 : Try.prog.cellsOf 73 = Try.t73.size := by kernel_rfl
@[cbv_eval] theorem tb73 : Try.prog.bytesOf 73 = Try.t73.bytes := by kernel_rfl
@[cbv_eval] theorem tg73 : isAggB Try.prog 73 = true := by kernel_rfl
@[cbv_eval] theorem th73 : has Try.prog 73 = True := eq_true ⟨_, tu73⟩
@[cbv_eval] theorem tz73 : zeroL Try.prog 73 = zeroT Try.t73.zero := by kernel_rfl
@[cbv_eval] theorem tu74 : Try.prog.underlying 74 = some Try.t74.desc := by kernel_rfl
@[cbv_eval] theorem tc74 : Try.prog.cellsOf 74 = Try.t74.size := by kernel_rfl
@[cbv_eval] theorem tb74 : Try.prog.bytesOf 74 = Try.t74.bytes := by kernel_rfl
@[cbv_eval] theorem tg74 : isAggB Try.prog 74 = false := by kernel_rfl
@[cbv_eval] theorem th74 : has Try.prog 74 = True := eq_true ⟨_, tu74⟩
@[cbv_eval] theorem tz74 : zeroL Try.prog 74 = zeroT Try.t74.zero := by kernel_rfl
@[cbv_eval] theorem tu75 : Try.prog.underlying 75 = some Try.t3.desc := by kernel_rfl
@[cbv_eval] theorem tc75 : Try.prog.cellsOf 75 = Try.t75.size := by kernel_rfl
@[cbv_eval] theorem tb75 : Try.prog.bytesOf 75 = Try.t75.bytes := by kernel_rfl
@[cbv_eval] theorem tg75 : isAggB Try.prog 75 = false := by kernel_rfl
@[cbv_eval] theorem th75 : has Try.prog 75 = True := eq_true ⟨_, tu75⟩
@[cbv_eval] theorem tz75 : zeroL Try.prog 75 = zeroT Try.t75.zero := by kernel_rfl
@[cbv_eval] theorem tu76 : Try.prog.underlying 76 = some Try.t76.desc := by kernel_rfl
@[cbv_eval] theorem tc76 : Try.prog.cellsOf 76 = Try.t76.size := by kernel_rfl
@[cbv_eval] theorem tb76 : Try.prog.bytesOf 76 = Try.t76.bytes := by kernel_rfl
@[cbv_eval] theorem tg76 : isAggB Try.prog 76 = false := by kernel_rfl
@[cbv_eval] theorem th76 : has Try.prog 76 = True := eq_true ⟨_, tu76⟩
@[cbv_eval] theorem tz76 : zeroL Try.prog 76 = zeroT Try.t76.zero := by kernel_rfl
@[cbv_eval] theorem tu77 : Try.prog.underlying 77 = some Try.t77.desc := by kernel_rfl
@[cbv_eval] theorem tc77 : Try.prog.cellsOf 77 = Try.t77.size := by kernel_rfl
@[cbv_eval] theorem tb77 : Try.prog.bytesOf 77 = Try.t77.bytes := by kernel_rfl
@[cbv_eval] theorem tg77 : isAggB Try.prog 77 = false := by kernel_rfl
@[cbv_eval] theorem th77 : has Try.prog 77 = True := eq_true ⟨_, tu77⟩
@[cbv_eval] theorem tz77 : zeroL Try.prog 77 = zeroT Try.t77.zero := by kernel_rfl
@[cbv_eval] theorem tu78 : Try.prog.underlying 78 = some Try.t78.desc := by kernel_rfl
@[cbv_eval] theorem tc78 : Try.prog.cellsOf 78 = Try.t78.size := by kernel_rfl
@[cbv_eval] theorem tb78 : Try.prog.bytesOf 78 = Try.t78.bytes := by kernel_rfl
@[cbv_eval] theorem tg78 : isAggB Try.prog 78 = false := by kernel_rfl
@[cbv_eval] theorem th78 : has Try.prog 78 = True := eq_true ⟨_, tu78⟩
@[cbv_eval] theorem tz78 : zeroL Try.prog 78 = zeroT Try.t78.zero := by kernel_rfl
@[cbv_eval] theorem tu79 : Try.prog.underlying 79 = some Try.t79.desc := by kernel_rfl
@[cbv_eval] theorem tc79 : Try.prog.cellsOf 79 = Try.t79.size := by kernel_rfl
@[cbv_eval] theorem tb79 : Try.prog.bytesOf 79 = Try.t79.bytes := by kernel_rfl
@[cbv_eval] theorem tg79 : isAggB Try.prog 79 = false := by kernel_rfl
@[cbv_eval] theorem th79 : has Try.prog 79 = True := eq_true ⟨_, tu79⟩
@[cbv_eval] theorem tz79 : zeroL Try.prog 79 = zeroT Try.t79.zero := by kernel_rfl
@[cbv_eval] theorem tu80 : Try.prog.underlying 80 = some Try.t80.desc := by kernel_rfl
@[cbv_eval] theorem tc80 : Try.prog.cellsOf 80 = Try.t80.size := by kernel_rfl
@[cbv_eval] theorem tb80 : Try.prog.bytesOf 80 = Try.t80.bytes := by kernel_rfl
@[cbv_eval] theorem tg80 : isAggB Try.prog 80 = false := by kernel_rfl
@[cbv_eval] theorem th80 : has Try.prog 80 = True := eq_true ⟨_, tu80⟩
@[cbv_eval] theorem tz80 : zeroL Try.prog 80 = zeroT Try.t80.zero := by kernel_rfl
@[cbv_eval] theorem tu81 : Try.prog.underlying 81 = some Try.t81.desc := by kernel_rfl
@[cbv_eval] theorem tc81 : Try.prog.cellsOf 81 = Try.t81.size := by kernel_rfl
@[cbv_eval] theorem tb81 : Try.prog.bytesOf 81 = Try.t81.bytes := by kernel_rfl
@[cbv_eval] theorem tg81 : isAggB Try.prog 81 = false := by kernel_rfl
@[cbv_eval] theorem th81 : has Try.prog 81 = True := eq_true ⟨_, tu81⟩
@[cbv_eval] theorem tz81 : zeroL Try.prog 81 = zeroT Try.t81.zero := by kernel_rfl
@[cbv_eval] theorem tu82 : Try.prog.underlying 82 = some Try.t82.desc := by kernel_rfl
@[cbv_eval] theorem tc82 : Try.prog.cellsOf 82 = Try.t82.size := by kernel_rfl
@[cbv_eval] theorem tb82 : Try.prog.bytesOf 82 = Try.t82.bytes := by kernel_rfl
@[cbv_eval] theorem tg82 : isAggB Try.prog 82 = false := by kernel_rfl
@[cbv_eval] theorem th82 : has Try.prog 82 = True := eq_true ⟨_, tu82⟩
@[cbv_eval] theorem tz82 : zeroL Try.prog 82 = zeroT Try.t82.zero := by kernel_rfl
@[cbv_eval] theorem tu83 : Try.prog.underlying 83 = some Try.t83.desc := by kernel_rfl
@[cbv_eval] theorem tc83 : Try.prog.cellsOf 83 = Try.t83.size := by kernel_rfl
@[cbv_eval] theorem tb83 : Try.prog.bytesOf 83 = Try.t83.bytes := by kernel_rfl
@[cbv_eval] theorem tg83 : isAggB Try.prog 83 = false := by kernel_rfl
@[cbv_eval] theorem th83 : has Try.prog 83 = True := eq_true ⟨_, tu83⟩
@[cbv_eval] theorem tz83 : zeroL Try.prog 83 = zeroT Try.t83.zero := by kernel_rfl
@[cbv_eval] theorem tu84 : Try.prog.underlying 84 = some Try.t84.desc := by kernel_rfl
@[cbv_eval] theorem tc84 : Try.prog.cellsOf 84 = Try.t84.size := by kernel_rfl
@[cbv_eval] theorem tb84 : Try.prog.bytesOf 84 = Try.t84.bytes := by kernel_rfl
@[cbv_eval] theorem tg84 : isAggB Try.prog 84 = false := by kernel_rfl
@[cbv_eval] theorem th84 : has Try.prog 84 = True := eq_true ⟨_, tu84⟩
@[cbv_eval] theorem tz84 : zeroL Try.prog 84 = zeroT Try.t84.zero := by kernel_rfl
@[cbv_eval] theorem tu85 : Try.prog.underlying 85 = some Try.t85.desc := by kernel_rfl
@[cbv_eval] theorem tc85 : Try.prog.cellsOf 85 = Try.t85.size := by kernel_rfl
@[cbv_eval] theorem tb85 : Try.prog.bytesOf 85 = Try.t85.bytes := by kernel_rfl
@[cbv_eval] theorem tg85 : isAggB Try.prog 85 = false := by kernel_rfl
@[cbv_eval] theorem th85 : has Try.prog 85 = True := eq_true ⟨_, tu85⟩
@[cbv_eval] theorem tz85 : zeroL Try.prog 85 = zeroT Try.t85.zero := by kernel_rfl
@[cbv_eval] theorem tu86 : Try.prog.underlying 86 = some Try.t85.desc := by kernel_rfl
@[cbv_eval] theorem tc86 : Try.prog.cellsOf 86 = Try.t86.size := by kernel_rfl
@[cbv_eval] theorem tb86 : Try.prog.bytesOf 86 = Try.t86.bytes := by kernel_rfl
@[cbv_eval] theorem tg86 : isAggB Try.prog 86 = false := by kernel_rfl
@[cbv_eval] theorem th86 : has Try.prog 86 = True := eq_true ⟨_, tu86⟩
@[cbv_eval] theorem tz86 : zeroL Try.prog 86 = zeroT Try.t86.zero := by kernel_rfl
@[cbv_eval] theorem tu87 : Try.prog.underlying 87 = some Try.t87.desc := by kernel_rfl
@[cbv_eval] theorem tc87 : Try.prog.cellsOf 87 = Try.t87.size := by kernel_rfl
@[cbv_eval] theorem tb87 : Try.prog.bytesOf 87 = Try.t87.bytes := by kernel_rfl
@[cbv_eval] theorem tg87 : isAggB Try.prog 87 = false := by kernel_rfl
@[cbv_eval] theorem th87 : has Try.prog 87 = True := eq_true ⟨_, tu87⟩
@[cbv_eval] theorem tz87 : zeroL Try.prog 87 = zeroT Try.t87.zero := by kernel_rfl
@[cbv_eval] theorem tu88 : Try.prog.underlying 88 = some Try.t88.desc := by kernel_rfl
@[cbv_eval] theorem tc88 : Try.prog.cellsOf 88 = Try.t88.size := by kernel_rfl
@[cbv_eval] theorem tb88 : Try.prog.bytesOf 88 = Try.t88.bytes := by kernel_rfl
@[cbv_eval] theorem tg88 : isAggB Try.prog 88 = false := by kernel_rfl
@[cbv_eval] theorem th88 : has Try.prog 88 = True := eq_true ⟨_, tu88⟩
@[cbv_eval] theorem tz88 : zeroL Try.prog 88 = zeroT Try.t88.zero := by kernel_rfl
@[cbv_eval] theorem tu89 : Try.prog.underlying 89 = some Try.t22.desc := by kernel_rfl
@[cbv_eval] theorem tc89 : Try.prog.cellsOf 89 = Try.t89.size := by kernel_rfl
@[cbv_eval] theorem tb89 : Try.prog.bytesOf 89 = Try.t89.bytes := by kernel_rfl
@[cbv_eval] theorem tg89 : isAggB Try.prog 89 = false := by kernel_rfl
@[cbv_eval] theorem th89 : has Try.prog 89 = True := eq_true ⟨_, tu89⟩
@[cbv_eval] theorem tz89 : zeroL Try.prog 89 = zeroT Try.t89.zero := by kernel_rfl
@[cbv_eval] theorem tu90 : Try.prog.underlying 90 = some Try.t90.desc := by kernel_rfl
@[cbv_eval] theorem tc90 : Try.prog.cellsOf 90 = Try.t90.size := by kernel_rfl
@[cbv_eval] theorem tb90 : Try.prog.bytesOf 90 = Try.t90.bytes := by kernel_rfl
@[cbv_eval] theorem tg90 : isAggB Try.prog 90 = false := by kernel_rfl
@[cbv_eval] theorem th90 : has Try.prog 90 = True := eq_true ⟨_, tu90⟩
@[cbv_eval] theorem tz90 : zeroL Try.prog 90 = zeroT Try.t90.zero := by kernel_rfl
@[cbv_eval] theorem tu91 : Try.prog.underlying 91 = some Try.t91.desc := by kernel_rfl
@[cbv_eval] theorem tc91 : Try.prog.cellsOf 91 = Try.t91.size := by kernel_rfl
@[cbv_eval] theorem tb91 : Try.prog.bytesOf 91 = Try.t91.bytes := by kernel_rfl
@[cbv_eval] theorem tg91 : isAggB Try.prog 91 = false := by kernel_rfl
@[cbv_eval] theorem th91 : has Try.prog 91 = True := eq_true ⟨_, tu91⟩
@[cbv_eval] theorem tz91 : zeroL Try.prog 91 = zeroT Try.t91.zero := by kernel_rfl
@[cbv_eval] theorem tu92 : Try.prog.underlying 92 = some Try.t92.desc := by kernel_rfl
@[cbv_eval] theorem tc92 : Try.prog.cellsOf 92 = Try.t92.size := by kernel_rfl
@[cbv_eval] theorem tb92 : Try.prog.bytesOf 92 = Try.t92.bytes := by kernel_rfl
@[cbv_eval] theorem tg92 : isAggB Try.prog 92 = false := by kernel_rfl
@[cbv_eval] theorem th92 : has Try.prog 92 = True := eq_true ⟨_, tu92⟩
@[cbv_eval] theorem tz92 : zeroL Try.prog 92 = zeroT Try.t92.zero := by kernel_rfl
@[cbv_eval] theorem tu93 : Try.prog.underlying 93 = some Try.t93.desc := by kernel_rfl
@[cbv_eval] theorem tc93 : Try.prog.cellsOf 93 = Try.t93.size := by kernel_rfl
@[cbv_eval] theorem tb93 : Try.prog.bytesOf 93 = Try.t93.bytes := by kernel_rfl
@[cbv_eval] theorem tg93 : isAggB Try.prog 93 = false := by kernel_rfl
@[cbv_eval] theorem th93 : has Try.prog 93 = True := eq_true ⟨_, tu93⟩
@[cbv_eval] theorem tz93 : zeroL Try.prog 93 = zeroT Try.t93.zero := by kernel_rfl
@[cbv_eval] theorem tu94 : Try.prog.underlying 94 = some Try.t94.desc := by kernel_rfl
@[cbv_eval] theorem tc94 : Try.prog.cellsOf 94 = Try.t94.size := by kernel_rfl
@[cbv_eval] theorem tb94 : Try.prog.bytesOf 94 = Try.t94.bytes := by kernel_rfl
@[cbv_eval] theorem tg94 : isAggB Try.prog 94 = false := by kernel_rfl
@[cbv_eval] theorem th94 : has Try.prog 94 = True := eq_true ⟨_, tu94⟩
@[cbv_eval] theorem tz94 : zeroL Try.prog 94 = zeroT Try.t94.zero := by kernel_rfl
@[cbv_eval] theorem tu95 : Try.prog.underlying 95 = some Try.t95.desc := by kernel_rfl
@[cbv_eval] theorem tc95 : Try.prog.cellsOf 95 = Try.t95.size := by kernel_rfl
@[cbv_eval] theorem tb95 : Try.prog.bytesOf 95 = Try.t95.bytes := by kernel_rfl
@[cbv_eval] theorem tg95 : isAggB Try.prog 95 = false := by kernel_rfl
@[cbv_eval] theorem th95 : has Try.prog 95 = True := eq_true ⟨_, tu95⟩
@[cbv_eval] theorem tz95 : zeroL Try.prog 95 = zeroT Try.t95.zero := by kernel_rfl
@[cbv_eval] theorem tu96 : Try.prog.underlying 96 = some Try.t96.desc := by kernel_rfl
@[cbv_eval] theorem tc96 : Try.prog.cellsOf 96 = Try.t96.size := by kernel_rfl
@[cbv_eval] theorem tb96 : Try.prog.bytesOf 96 = Try.t96.bytes := by kernel_rfl
@[cbv_eval] theorem tg96 : isAggB Try.prog 96 = false := by kernel_rfl
@[cbv_eval] theorem th96 : has Try.prog 96 = True := eq_true ⟨_, tu96⟩
@[cbv_eval] theorem tz96 : zeroL Try.prog 96 = zeroT Try.t96.zero := by kernel_rfl
@[cbv_eval] theorem tu97 : Try.prog.underlying 97 = some Try.t97.desc := by kernel_rfl
@[cbv_eval] theorem tc97 : Try.prog.cellsOf 97 = Try.t97.size := by kernel_rfl
@[cbv_eval] theorem tb97 : Try.prog.bytesOf 97 = Try.t97.bytes := by kernel_rfl
@[cbv_eval] theorem tg97 : isAggB Try.prog 97 = false := by kernel_rfl
@[cbv_eval] theorem th97 : has Try.prog 97 = True := eq_true ⟨_, tu97⟩
@[cbv_eval] theorem tz97 : zeroL Try.prog 97 = zeroT Try.t97.zero := by kernel_rfl
@[cbv_eval] theorem tu98 : Try.prog.underlying 98 = some Try.t98.desc := by kernel_rfl
@[cbv_eval] theorem tc98 : Try.prog.cellsOf 98 = Try.t98.size := by kernel_rfl
@[cbv_eval] theorem tb98 : Try.prog.bytesOf 98 = Try.t98.bytes := by kernel_rfl
@[cbv_eval] theorem tg98 : isAggB Try.prog 98 = false := by kernel_rfl
@[cbv_eval] theorem th98 : has Try.prog 98 = True := eq_true ⟨_, tu98⟩
@[cbv_eval] theorem tz98 : zeroL Try.prog 98 = zeroT Try.t98.zero := by kernel_rfl
@[cbv_eval] theorem tu99 : Try.prog.underlying 99 = some Try.t99.desc := by kernel_rfl
@[cbv_eval] theorem tc99 : Try.prog.cellsOf 99 = Try.t99.size := by kernel_rfl
@[cbv_eval] theorem tb99 : Try.prog.bytesOf 99 = Try.t99.bytes := by kernel_rfl
@[cbv_eval] theorem tg99 : isAggB Try.prog 99 = false := by kernel_rfl
@[cbv_eval] theorem th99 : has Try.prog 99 = True := eq_true ⟨_, tu99⟩
@[cbv_eval] theorem tz99 : zeroL Try.prog 99 = zeroT Try.t99.zero := by kernel_rfl
@[cbv_eval] theorem tu100 : Try.prog.underlying 100 = some Try.t100.desc := by kernel_rfl
@[cbv_eval] theorem tc100 : Try.prog.cellsOf 100 = Try.t100.size := by kernel_rfl
@[cbv_eval] theorem tb100 : Try.prog.bytesOf 100 = Try.t100.bytes := by kernel_rfl
@[cbv_eval] theorem tg100 : isAggB Try.prog 100 = false := by kernel_rfl
@[cbv_eval] theorem th100 : has Try.prog 100 = True := eq_true ⟨_, tu100⟩
@[cbv_eval] theorem tz100 : zeroL Try.prog 100 = zeroT Try.t100.zero := by kernel_rfl
@[cbv_eval] theorem tu101 : Try.prog.underlying 101 = some Try.t101.desc := by kernel_rfl
@[cbv_eval] theorem tc101 : Try.prog.cellsOf 101 = Try.t101.size := by kernel_rfl
@[cbv_eval] theorem tb101 : Try.prog.bytesOf 101 = Try.t101.bytes := by kernel_rfl
@[cbv_eval] theorem tg101 : isAggB Try.prog 101 = false := by kernel_rfl
@[cbv_eval] theorem th101 : has Try.prog 101 = True := eq_true ⟨_, tu101⟩
@[cbv_eval] theorem tz101 : zeroL Try.prog 101 = zeroT Try.t101.zero := by kernel_rfl
@[cbv_eval] theorem tu102 : Try.prog.underlying 102 = some Try.t102.desc := by kernel_rfl
@[cbv_eval] theorem tc102 : Try.prog.cellsOf 102 = Try.t102.size := by kernel_rfl
@[cbv_eval] theorem tb102 : Try.prog.bytesOf 102 = Try.t102.bytes := by kernel_rfl
@[cbv_eval] theorem tg102 : isAggB Try.prog 102 = true := by kernel_rfl
@[cbv_eval] theorem th102 : has Try.prog 102 = True := eq_true ⟨_, tu102⟩
@[cbv_eval] theorem tz102 : zeroL Try.prog 102 = zeroT Try.t102.zero := by kernel_rfl
@[cbv_eval] theorem tu103 : Try.prog.underlying 103 = some Try.t102.desc := by kernel_rfl
@[cbv_eval] theorem tc103 : Try.prog.cellsOf 103 = Try.t103.size := by kernel_rfl
@[cbv_eval] theorem tb103 : Try.prog.bytesOf 103 = Try.t103.bytes := by kernel_rfl
@[cbv_eval] theorem tg103 : isAggB Try.prog 103 = true := by kernel_rfl
@[cbv_eval] theorem th103 : has Try.prog 103 = True := eq_true ⟨_, tu103⟩
@[cbv_eval] theorem tz103 : zeroL Try.prog 103 = zeroT Try.t103.zero := by kernel_rfl
@[cbv_eval] theorem tu104 : Try.prog.underlying 104 = some Try.t104.desc := by kernel_rfl
@[cbv_eval] theorem tc104 : Try.prog.cellsOf 104 = Try.t104.size := by kernel_rfl
@[cbv_eval] theorem tb104 : Try.prog.bytesOf 104 = Try.t104.bytes := by kernel_rfl
@[cbv_eval] theorem tg104 : isAggB Try.prog 104 = true := by kernel_rfl
@[cbv_eval] theorem th104 : has Try.prog 104 = True := eq_true ⟨_, tu104⟩
@[cbv_eval] theorem tz104 : zeroL Try.prog 104 = zeroT Try.t104.zero := by kernel_rfl
@[cbv_eval] theorem tu105 : Try.prog.underlying 105 = some Try.t105.desc := by kernel_rfl
@[cbv_eval] theorem tc105 : Try.prog.cellsOf 105 = Try.t105.size := by kernel_rfl
@[cbv_eval] theorem tb105 : Try.prog.bytesOf 105 = Try.t105.bytes := by kernel_rfl
@[cbv_eval] theorem tg105 : isAggB Try.prog 105 = true := by kernel_rfl
@[cbv_eval] theorem th105 : has Try.prog 105 = True := eq_true ⟨_, tu105⟩
@[cbv_eval] theorem tz105 : zeroL Try.prog 105 = zeroT Try.t105.zero := by kernel_rfl
@[cbv_eval] theorem tu106 : Try.prog.underlying 106 = some Try.t105.desc := by kernel_rfl
@[cbv_eval] theorem tc106 : Try.prog.cellsOf 106 = Try.t106.size := by kernel_rfl
@[cbv_eval] theorem tb106 : Try.prog.bytesOf 106 = Try.t106.bytes := by kernel_rfl
@[cbv_eval] theorem tg106 : isAggB Try.prog 106 = true := by kernel_rfl
@[cbv_eval] theorem th106 : has Try.prog 106 = True := eq_true ⟨_, tu106⟩
@[cbv_eval] theorem tz106 : zeroL Try.prog 106 = zeroT Try.t106.zero := by kernel_rfl
@[cbv_eval] theorem tu107 : Try.prog.underlying 107 = some Try.t107.desc := by kernel_rfl
@[cbv_eval] theorem tc107 : Try.prog.cellsOf 107 = Try.t107.size := by kernel_rfl
@[cbv_eval] theorem tb107 : Try.prog.bytesOf 107 = Try.t107.bytes := by kernel_rfl
@[cbv_eval] theorem tg107 : isAggB Try.prog 107 = false := by kernel_rfl
@[cbv_eval] theorem th107 : has Try.prog 107 = True := eq_true ⟨_, tu107⟩
@[cbv_eval] theorem tz107 : zeroL Try.prog 107 = zeroT Try.t107.zero := by kernel_rfl
end Go.Proofs.Ytncnnbjhginpfaa
